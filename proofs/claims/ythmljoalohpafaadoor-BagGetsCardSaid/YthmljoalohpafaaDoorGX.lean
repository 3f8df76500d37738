/- Texts of this seat, one behind the other. -/
import Derived.Test.YthmljoalohpafaaDoorGW
import Derived.Test.YthmljoalohpafaaDoorTE
set_option linter.unusedVariables false
namespace Go.Proofs.YthmljoalohpafaaDoor
open Go Go.Pu

/-- levee/bag.Sum -/
def L_bag_Sum : FuncId → Nat → Option (List Nat) := liveT [(51, 7, [0, 3, 4, 5]), (51, 1000007, [0, 3, 4, 5]), (51, 2000007, [2]), (51, 5, [0, 117000003, 4]), (51, 1000005, [3]), (51, 2000005, [2])]
def M_bag_Sum : FuncId → Bool := fun f => f == 77
noncomputable def rd_bag_Sum_51_7 : List U → Rt
  | [.i v0, .l v1, .l v2, .i v3, .l v4] =>
    (.test (decide (v0 < ln v1))
    (.test (inR v0 (ln v1))
    (.test (decide (Int.toNat v0 < List.length v1))
    (let r0 : Rs := (Rt.res (m_row_Compare [U.l (cL (el v1 v0) 0), U.l v4]))
    (.test (ok r0 0)
    (.test (uI (out r0 0) 0 == (0 : Int))
    (.test (inR v0 (ln v1))
    (.test (decide (Int.toNat v0 < List.length v1))
    (.next [.i (w64 (v0 + (1 : Int))), .l v1, .l v2, .i (w64 (v3 + cI (el v1 v0) 1)), .l v4])
    .fail)
    .fail)
    (.stop 0 [.i v0, .l v1, .l v2, .i v3, .l v4]))
    .fail))
    .fail)
    .fail)
    (.stop 0 [.i v0, .l v1, .l v2, .i v3, .l v4]))
  | _ => .fail
def sp_bag_Sum_51_7 : LSp := ⟨55, ⟨[(0, .one (.all 0)), (3, .one (.all 1)), (4, .one (.i .i64)), (5, .one (.ptr 2 0))], [.arr 58 true, .arr 58 true, .box 58 [.one (.all 3), .one (.i .i64)], .arr 34 true]⟩, [(.exit 2, ⟨[(0, .one (.all 0)), (3, .one (.all 1)), (4, .one (.i .i64)), (5, .one (.ptr 2 0))], [.arr 58 true, .arr 58 true, .box 58 [.one (.all 3), .one (.i .i64)], .arr 34 true]⟩)]⟩
set_option maxRecDepth 100000 in
theorem rq_bag_Sum_51_7 (v0 : Int) (v1 : List (List PV)) (v2 : List (List PV)) (v3 : Int) (v4 : List (List PV)) : runK br Tryd.prog (callK br Tryd.prog XJ M_bag_Sum L_bag_Sum (lsT []) 40) M_bag_Sum (lsT [] 51 0) 40 0 (L_bag_Sum 51) (bodyOf Tryd.prog 51 7) (sp_bag_Sum_51_7.s.ts sp_bag_Sum_51_7.n [.i v0, .l v1, .l v2, .i v3, .l v4]) (sp_bag_Sum_51_7.s.h [.i v0, .l v1, .l v2, .i v3, .l v4]) (idc Tryd.prog 0 (L_bag_Sum 51) 7) =
    (rd_bag_Sum_51_7 [.i v0, .l v1, .l v2, .i v3, .l v4]).go br (fun us' => some (.normal, sp_bag_Sum_51_7.s.ts sp_bag_Sum_51_7.n us', sp_bag_Sum_51_7.s.h us')) sp_bag_Sum_51_7.fin := by
  rw [← callF_eq, ← runF_eq]; kernel_rfl
theorem lo_bag_Sum_51_7 {R : Type} : LoopTells Tryd.prog XJ M_bag_Sum L_bag_Sum 0 (L_bag_Sum 51) (bodyOf Tryd.prog 51 7) (gL (R := R) sp_bag_Sum_51_7 rd_bag_Sum_51_7 br) :=
  loopTold (callK_ev (loopsOK_list rids noneIn) 40) (lsokIn (loopsOK_list rids noneIn) 51 0 7) (by kernel_rfl) sp_bag_Sum_51_7 rd_bag_Sum_51_7 rfl (by kernel_rfl) (by
    intro us v h; unfold rd_bag_Sum_51_7 at h; split at h
    · rename_i v0 v1 v2 v3 v4; exact rq_bag_Sum_51_7 v0 v1 v2 v3 v4
    · cases h)
noncomputable abbrev ll_bag_Sum_51_7 {R : Type} : List (Nat × Nat × Nat × Smy R) := (51, 0, 7, gL sp_bag_Sum_51_7 rd_bag_Sum_51_7 br) :: []
theorem lk_bag_Sum_51_7 {R : Type} : ∀ e ∈ ll_bag_Sum_51_7 (R := R), LoopTells Tryd.prog XJ M_bag_Sum L_bag_Sum e.2.1 (L_bag_Sum e.1) (bodyOf Tryd.prog e.1 e.2.2.1) e.2.2.2 := List.forall_mem_cons.2 ⟨lo_bag_Sum_51_7, noneIn⟩
noncomputable def rd_bag_Sum_51_5 : List U → Rt
  | [.i v0, .l v1, .l v2] =>
    (.test (decide (v0 < ln v1))
    (.test (inR v0 (ln v1))
    (.test (decide (Int.toNat v0 < List.length v1))
    (.test (decide ((0 + List.length (cL (el v1 v0) 0)) * 32 ≤ 140737488355328))
    (let r0 : Rs := (lres rd_bag_Sum_51_7 [U.i v0, U.l v1, U.l v2, U.i (0 : Int), U.l (cL (el v1 v0) 0)])
    (.test (ok r0 0)
    (.test (uI (out r0 0) 3 != (0 : Int))
    (.test (decide ((List.length (uL (out r0 0) 2) + 1) * 32 ≤ 140737488355328))
    (.next [.i (uI (out r0 0) 0), .l (uL (out r0 0) 1), .l (uL (out r0 0) 2 ++ [[PV.lst 34 (uL (out r0 0) 4), pI (uI (out r0 0) 3)]])])
    .fail)
    (.next [.i (uI (out r0 0) 0), .l (uL (out r0 0) 1), .l (uL (out r0 0) 2)]))
    .fail))
    .fail)
    .fail)
    .fail)
    (.stop 0 [.l v2]))
  | _ => .fail
def sp_bag_Sum_51_5 : LSp := ⟨55, ⟨[(0, .one (.all 0)), (3, .one (.all 1)), (4, .one (.i .i64))], [.arr 58 true, .arr 58 true]⟩, [(.exit 0, ⟨[(3, .one (.all 0))], [.arr 58 true]⟩)]⟩
set_option maxRecDepth 100000 in
theorem rq_bag_Sum_51_5 (v0 : Int) (v1 : List (List PV)) (v2 : List (List PV)) : runK br Tryd.prog (callK br Tryd.prog XJ M_bag_Sum L_bag_Sum (lsT ll_bag_Sum_51_7) 40) M_bag_Sum (lsT ll_bag_Sum_51_7 51 0) 40 0 (L_bag_Sum 51) (bodyOf Tryd.prog 51 5) (sp_bag_Sum_51_5.s.ts sp_bag_Sum_51_5.n [.i v0, .l v1, .l v2]) (sp_bag_Sum_51_5.s.h [.i v0, .l v1, .l v2]) (idc Tryd.prog 0 (L_bag_Sum 51) 5) =
    (rd_bag_Sum_51_5 [.i v0, .l v1, .l v2]).go br (fun us' => some (.normal, sp_bag_Sum_51_5.s.ts sp_bag_Sum_51_5.n us', sp_bag_Sum_51_5.s.h us')) sp_bag_Sum_51_5.fin := by
  rw [← callF_eq, ← runF_eq]; kernel_rfl
theorem lo_bag_Sum_51_5 {R : Type} : LoopTells Tryd.prog XJ M_bag_Sum L_bag_Sum 0 (L_bag_Sum 51) (bodyOf Tryd.prog 51 5) (gL (R := R) sp_bag_Sum_51_5 rd_bag_Sum_51_5 br) :=
  loopTold (callK_ev (loopsOK_list rids lk_bag_Sum_51_7) 40) (lsokIn (loopsOK_list rids lk_bag_Sum_51_7) 51 0 5) (by kernel_rfl) sp_bag_Sum_51_5 rd_bag_Sum_51_5 rfl (by kernel_rfl) (by
    intro us v h; unfold rd_bag_Sum_51_5 at h; split at h
    · rename_i v0 v1 v2; exact rq_bag_Sum_51_5 v0 v1 v2
    · cases h)
noncomputable abbrev ll_bag_Sum_51_5 {R : Type} : List (Nat × Nat × Nat × Smy R) := (51, 0, 5, gL sp_bag_Sum_51_5 rd_bag_Sum_51_5 br) :: ll_bag_Sum_51_7
theorem lk_bag_Sum_51_5 {R : Type} : ∀ e ∈ ll_bag_Sum_51_5 (R := R), LoopTells Tryd.prog XJ M_bag_Sum L_bag_Sum e.2.1 (L_bag_Sum e.1) (bodyOf Tryd.prog e.1 e.2.2.1) e.2.2.2 := List.forall_mem_cons.2 ⟨lo_bag_Sum_51_5, lk_bag_Sum_51_7⟩
def S_bag_Sum : FSp := ⟨[.one (.l 58)], [], [], [([.one (.all 0)], [.arr 58 true])]⟩
noncomputable def m_bag_Sum : List U → Rt
  | [.l v0] =>
    (.test (decide ((0 + List.length v0) * 32 ≤ 140737488355328))
    (let r0 : Rs := (Rt.res (m_slices_SortStableFunc_ [U.l v0]))
    (.test (ok r0 0)
    (let r1 : Rs := (lres rd_bag_Sum_51_5 [U.i (0 : Int), U.l (uL (out r0 0) 0), U.l []])
    (.test (ok r1 0)
    (.stop 0 [.l (uL (out r1 0) 0)])
    .fail))
    .fail))
    .fail)
  | _ => .fail
set_option maxRecDepth 100000 in
theorem q_bag_Sum (v0 : List (List PV)) : callK br Tryd.prog XJ M_bag_Sum L_bag_Sum (lsT ll_bag_Sum_51_5) 60 51 (encs [.l v0] 0 S_bag_Sum.ap) (encH [.l v0] (ws S_bag_Sum.ap) S_bag_Sum.ah) (fun y => fixR Tryd.prog S_bag_Sum.plan S_bag_Sum.ah.length y) =
    (m_bag_Sum [.l v0]).go br (fun _ => none) S_bag_Sum.fin := by
  rw [← callF_eq]; kernel_rfl
theorem e_bag_Sum : EOK Tryd.prog 51 (gF S_bag_Sum m_bag_Sum) :=
  eokTold mixed named xJ (loopsOK_list rids lk_bag_Sum_51_5) 60 S_bag_Sum m_bag_Sum (by
    intro us v h; unfold m_bag_Sum at h; split at h
    · rename_i v0; exact q_bag_Sum v0
    · cases h) false
noncomputable abbrev X101 : Ext := extT [(51, (gF S_bag_Sum m_bag_Sum))] XJ
theorem x101 : XOK Tryd.prog X101 := xok1 xJ e_bag_Sum

/-- levee/leveeref02.Short -/
def L_R02_Short : FuncId → Nat → Option (List Nat) := liveT [(48, 2, [0, 3]), (48, 1000002, [0]), (48, 2000002, [2])]
def M_R02_Short : FuncId → Bool := fun _ => false
noncomputable def rd_R02_Short_48_2 : List U → Rt
  | [.l v0, .i v1] =>
    (.test (decide (v1 < ln v0))
    (.test (inR v1 (ln v0))
    (.test (decide ((↑(ByteArray.size (cS (el v0 v1) 2)) : Int) > (1000 : Int)))
    (.stop 0 [.b false])
    (.next [.l v0, .i (w64 (v1 + (1 : Int)))]))
    .fail)
    (.stop 1 [.l v0]))
  | _ => .fail
def sp_R02_Short_48_2 : LSp := ⟨20, ⟨[(0, .one (.l 34)), (3, .one (.i .i64))], []⟩, [(.ret, ⟨[(2, .one (.b))], []⟩), (.exit 0, ⟨[(0, .one (.l 34))], []⟩)]⟩
set_option maxRecDepth 100000 in
theorem rq_R02_Short_48_2 (v0 : List (List PV)) (v1 : Int) : runK br Tryd.prog (callK br Tryd.prog X101 M_R02_Short L_R02_Short (lsT []) 40) M_R02_Short (lsT [] 48 0) 40 0 (L_R02_Short 48) (bodyOf Tryd.prog 48 2) (sp_R02_Short_48_2.s.ts sp_R02_Short_48_2.n [.l v0, .i v1]) (sp_R02_Short_48_2.s.h [.l v0, .i v1]) (idc Tryd.prog 0 (L_R02_Short 48) 2) =
    (rd_R02_Short_48_2 [.l v0, .i v1]).go br (fun us' => some (.normal, sp_R02_Short_48_2.s.ts sp_R02_Short_48_2.n us', sp_R02_Short_48_2.s.h us')) sp_R02_Short_48_2.fin := by
  rw [← callF_eq, ← runF_eq]; kernel_rfl
theorem lo_R02_Short_48_2 {R : Type} : LoopTells Tryd.prog X101 M_R02_Short L_R02_Short 0 (L_R02_Short 48) (bodyOf Tryd.prog 48 2) (gL (R := R) sp_R02_Short_48_2 rd_R02_Short_48_2 br) :=
  loopTold (callK_ev (loopsOK_list rids noneIn) 40) (lsokIn (loopsOK_list rids noneIn) 48 0 2) (by kernel_rfl) sp_R02_Short_48_2 rd_R02_Short_48_2 rfl (by kernel_rfl) (by
    intro us v h; unfold rd_R02_Short_48_2 at h; split at h
    · rename_i v0 v1; exact rq_R02_Short_48_2 v0 v1
    · cases h)
noncomputable abbrev ll_R02_Short_48_2 {R : Type} : List (Nat × Nat × Nat × Smy R) := (48, 0, 2, gL sp_R02_Short_48_2 rd_R02_Short_48_2 br) :: []
theorem lk_R02_Short_48_2 {R : Type} : ∀ e ∈ ll_R02_Short_48_2 (R := R), LoopTells Tryd.prog X101 M_R02_Short L_R02_Short e.2.1 (L_R02_Short e.1) (bodyOf Tryd.prog e.1 e.2.2.1) e.2.2.2 := List.forall_mem_cons.2 ⟨lo_R02_Short_48_2, noneIn⟩
def S_R02_Short : FSp := ⟨[.one (.l 34)], [], [], [([.one (.b)], [])]⟩
noncomputable def m_R02_Short : List U → Rt
  | [.l v0] =>
    (let r0 : Rs := (lres rd_R02_Short_48_2 [U.l v0, U.i (0 : Int)])
    (.test (ok r0 0)
    (.stop 0 [.b (uB (out r0 0) 0)])
    (.test (ok r0 1)
    (.stop 0 [.b (decide (ln (uL (out r0 1) 0) ≤ (40 : Int)))])
    .fail)))
  | _ => .fail
set_option maxRecDepth 100000 in
theorem q_R02_Short (v0 : List (List PV)) : callK br Tryd.prog X101 M_R02_Short L_R02_Short (lsT ll_R02_Short_48_2) 60 48 (encs [.l v0] 0 S_R02_Short.ap) (encH [.l v0] (ws S_R02_Short.ap) S_R02_Short.ah) (fun y => fixR Tryd.prog S_R02_Short.plan S_R02_Short.ah.length y) =
    (m_R02_Short [.l v0]).go br (fun _ => none) S_R02_Short.fin := by
  rw [← callF_eq]; kernel_rfl
theorem e_R02_Short : EOK Tryd.prog 48 (gF S_R02_Short m_R02_Short) :=
  eokTold mixed named x101 (loopsOK_list rids lk_R02_Short_48_2) 60 S_R02_Short m_R02_Short (by
    intro us v h; unfold m_R02_Short at h; split at h
    · rename_i v0; exact q_R02_Short v0
    · cases h) false
noncomputable abbrev X102 : Ext := extT [(48, (gF S_R02_Short m_R02_Short))] X101
theorem x102 : XOK Tryd.prog X102 := xok1 x101 e_R02_Short

/-- levee/leveeref04.Short -/
def L_R04_Short : FuncId → Nat → Option (List Nat) := liveT [(22, 2, [0, 3]), (22, 1000002, [0]), (22, 2000002, [2])]
def M_R04_Short : FuncId → Bool := fun _ => false
noncomputable def rd_R04_Short_22_2 : List U → Rt
  | [.l v0, .i v1] =>
    (.test (decide (v1 < ln v0))
    (.test (inR v1 (ln v0))
    (let r0 : Rs := (Rt.res (m_R02_Short [U.l (cL (el v0 v1) 0)]))
    (.test (ok r0 0)
    (.test (!uB (out r0 0) 0)
    (.stop 0 [.b false])
    (.next [.l v0, .i (w64 (v1 + (1 : Int)))]))
    .fail))
    .fail)
    (.stop 1 [.l v0]))
  | _ => .fail
def sp_R04_Short_22_2 : LSp := ⟨19, ⟨[(0, .one (.l 26)), (3, .one (.i .i64))], []⟩, [(.ret, ⟨[(2, .one (.b))], []⟩), (.exit 0, ⟨[(0, .one (.l 26))], []⟩)]⟩
set_option maxRecDepth 100000 in
theorem rq_R04_Short_22_2 (v0 : List (List PV)) (v1 : Int) : runK br Tryd.prog (callK br Tryd.prog X102 M_R04_Short L_R04_Short (lsT []) 40) M_R04_Short (lsT [] 22 0) 40 0 (L_R04_Short 22) (bodyOf Tryd.prog 22 2) (sp_R04_Short_22_2.s.ts sp_R04_Short_22_2.n [.l v0, .i v1]) (sp_R04_Short_22_2.s.h [.l v0, .i v1]) (idc Tryd.prog 0 (L_R04_Short 22) 2) =
    (rd_R04_Short_22_2 [.l v0, .i v1]).go br (fun us' => some (.normal, sp_R04_Short_22_2.s.ts sp_R04_Short_22_2.n us', sp_R04_Short_22_2.s.h us')) sp_R04_Short_22_2.fin := by
  rw [← callF_eq, ← runF_eq]; kernel_rfl
theorem lo_R04_Short_22_2 {R : Type} : LoopTells Tryd.prog X102 M_R04_Short L_R04_Short 0 (L_R04_Short 22) (bodyOf Tryd.prog 22 2) (gL (R := R) sp_R04_Short_22_2 rd_R04_Short_22_2 br) :=
  loopTold (callK_ev (loopsOK_list rids noneIn) 40) (lsokIn (loopsOK_list rids noneIn) 22 0 2) (by kernel_rfl) sp_R04_Short_22_2 rd_R04_Short_22_2 rfl (by kernel_rfl) (by
    intro us v h; unfold rd_R04_Short_22_2 at h; split at h
    · rename_i v0 v1; exact rq_R04_Short_22_2 v0 v1
    · cases h)
noncomputable abbrev ll_R04_Short_22_2 {R : Type} : List (Nat × Nat × Nat × Smy R) := (22, 0, 2, gL sp_R04_Short_22_2 rd_R04_Short_22_2 br) :: []
theorem lk_R04_Short_22_2 {R : Type} : ∀ e ∈ ll_R04_Short_22_2 (R := R), LoopTells Tryd.prog X102 M_R04_Short L_R04_Short e.2.1 (L_R04_Short e.1) (bodyOf Tryd.prog e.1 e.2.2.1) e.2.2.2 := List.forall_mem_cons.2 ⟨lo_R04_Short_22_2, noneIn⟩
def S_R04_Short : FSp := ⟨[.one (.l 26)], [], [], [([.one (.b)], [])]⟩
noncomputable def m_R04_Short : List U → Rt
  | [.l v0] =>
    (let r0 : Rs := (lres rd_R04_Short_22_2 [U.l v0, U.i (0 : Int)])
    (.test (ok r0 0)
    (.stop 0 [.b (uB (out r0 0) 0)])
    (.test (ok r0 1)
    (.stop 0 [.b (decide (ln (uL (out r0 1) 0) ≤ (100 : Int)))])
    .fail)))
  | _ => .fail
set_option maxRecDepth 100000 in
theorem q_R04_Short (v0 : List (List PV)) : callK br Tryd.prog X102 M_R04_Short L_R04_Short (lsT ll_R04_Short_22_2) 60 22 (encs [.l v0] 0 S_R04_Short.ap) (encH [.l v0] (ws S_R04_Short.ap) S_R04_Short.ah) (fun y => fixR Tryd.prog S_R04_Short.plan S_R04_Short.ah.length y) =
    (m_R04_Short [.l v0]).go br (fun _ => none) S_R04_Short.fin := by
  rw [← callF_eq]; kernel_rfl
theorem e_R04_Short : EOK Tryd.prog 22 (gF S_R04_Short m_R04_Short) :=
  eokTold mixed named x102 (loopsOK_list rids lk_R04_Short_22_2) 60 S_R04_Short m_R04_Short (by
    intro us v h; unfold m_R04_Short at h; split at h
    · rename_i v0; exact q_R04_Short v0
    · cases h) false
noncomputable abbrev X103 : Ext := extT [(22, (gF S_R04_Short m_R04_Short))] X102
theorem x103 : XOK Tryd.prog X103 := xok1 x102 e_R04_Short

/-- levee/leveeref01.Int -/
def L_R01_Int : FuncId → Nat → Option (List Nat) := liveT []
def M_R01_Int : FuncId → Bool := fun _ => false
def S_R01_Int : FSp := ⟨[.one (.i .i64)], [], [], [([.agg [.i .i64, .i .i64, .s]], [])]⟩
noncomputable def m_R01_Int : List U → Rt
  | [.i v0] =>
    (.stop 0 [.i ((2 : Int)), .i v0, .s ({ data := #[] })])
  | _ => .fail
set_option maxRecDepth 100000 in
theorem q_R01_Int (v0 : Int) : callK br Tryd.prog X103 M_R01_Int L_R01_Int (lsT []) 60 21 (encs [.i v0] 0 S_R01_Int.ap) (encH [.i v0] (ws S_R01_Int.ap) S_R01_Int.ah) (fun y => fixR Tryd.prog S_R01_Int.plan S_R01_Int.ah.length y) =
    (m_R01_Int [.i v0]).go br (fun _ => none) S_R01_Int.fin := by
  rw [← callF_eq]; kernel_rfl
theorem e_R01_Int : EOK Tryd.prog 21 (gI S_R01_Int m_R01_Int) :=
  eokTold mixed named x103 (loopsOK_list rids noneIn) 60 S_R01_Int m_R01_Int (by
    intro us v h; unfold m_R01_Int at h; split at h
    · rename_i v0; exact q_R01_Int v0
    · cases h) true
noncomputable abbrev X104 : Ext := extT [(21, (gI S_R01_Int m_R01_Int))] X103
theorem x104 : XOK Tryd.prog X104 := xok1 x103 e_R01_Int

/-- levee/leveelaw05.one -/
def L_L05_one : FuncId → Nat → Option (List Nat) := liveT []
def M_L05_one : FuncId → Bool := fun _ => false
def S_L05_one : FSp := ⟨[.one (.i .i64)], [], [], [([.one (.all 0)], [.arr 34 true])]⟩
noncomputable def m_L05_one : List U → Rt
  | [.i v0] =>
    (.stop 0 [.l ([[pI (2 : Int), pI v0, pS { data := #[] }]])])
  | _ => .fail
set_option maxRecDepth 100000 in
theorem q_L05_one (v0 : Int) : callK br Tryd.prog X104 M_L05_one L_L05_one (lsT []) 60 39 (encs [.i v0] 0 S_L05_one.ap) (encH [.i v0] (ws S_L05_one.ap) S_L05_one.ah) (fun y => fixR Tryd.prog S_L05_one.plan S_L05_one.ah.length y) =
    (m_L05_one [.i v0]).go br (fun _ => none) S_L05_one.fin := by
  rw [← callF_eq]; kernel_rfl
theorem e_L05_one : EOK Tryd.prog 39 (gI S_L05_one m_L05_one) :=
  eokTold mixed named x104 (loopsOK_list rids noneIn) 60 S_L05_one m_L05_one (by
    intro us v h; unfold m_L05_one at h; split at h
    · rename_i v0; exact q_L05_one v0
    · cases h) true
noncomputable abbrev X105 : Ext := extT [(39, (gI S_L05_one m_L05_one))] X104
theorem x105 : XOK Tryd.prog X105 := xok1 x104 e_L05_one

/-- levee/value.May -/
def L_value_May : FuncId → Nat → Option (List Nat) := liveT []
def M_value_May : FuncId → Bool := fun _ => false
def S_value_May : FSp := ⟨[.agg [.i .i64, .i .i64, .s]], [], [], [([.one (.b)], [])]⟩
noncomputable def m_value_May : List U → Rt
  | [.i v0, .i v1, .s v2] =>
    (.test (v0 == (0 : Int))
    (.stop 0 [.b (v0 == (0 : Int) && (v1 == (0 : Int) && (ByteArray.toList v2 == [] && true)))])
    (.test (v0 == (1 : Int))
    (.test (v1 == (0 : Int))
    (.stop 0 [.b (ByteArray.toList v2 == [])])
    (.test (v1 == (1 : Int))
    (.stop 0 [.b (ByteArray.toList v2 == [])])
    (.stop 0 [.b false])))
    (.test (v0 == (2 : Int))
    (.stop 0 [.b (ByteArray.toList v2 == [])])
    (.test (v0 == (3 : Int))
    (.test (v1 == (0 : Int))
    (.stop 0 [.b (decide ((↑(ByteArray.size v2) : Int) ≤ (1000 : Int)))])
    (.stop 0 [.b false]))
    (.stop 0 [.b false])))))
  | _ => .fail
set_option maxRecDepth 100000 in
theorem q_value_May (v0 : Int) (v1 : Int) (v2 : ByteArray) : callK br Tryd.prog X105 M_value_May L_value_May (lsT []) 60 68 (encs [.i v0, .i v1, .s v2] 0 S_value_May.ap) (encH [.i v0, .i v1, .s v2] (ws S_value_May.ap) S_value_May.ah) (fun y => fixR Tryd.prog S_value_May.plan S_value_May.ah.length y) =
    (m_value_May [.i v0, .i v1, .s v2]).go br (fun _ => none) S_value_May.fin := by
  rw [← callF_eq]; kernel_rfl
theorem e_value_May : EOK Tryd.prog 68 (gF S_value_May m_value_May) :=
  eokTold mixed named x105 (loopsOK_list rids noneIn) 60 S_value_May m_value_May (by
    intro us v h; unfold m_value_May at h; split at h
    · rename_i v0 v1 v2; exact q_value_May v0 v1 v2
    · cases h) false
noncomputable abbrev X106 : Ext := extT [(68, (gF S_value_May m_value_May))] X105
theorem x106 : XOK Tryd.prog X106 := xok1 x105 e_value_May

/-- levee/row.May -/
def L_row_May : FuncId → Nat → Option (List Nat) := liveT [(97, 2, [0, 1, 7, 8]), (97, 1000002, []), (97, 2000002, [4])]
def M_row_May : FuncId → Bool := fun _ => false
noncomputable def rd_row_May_97_2 : List U → Rt
  | [.l v0, .i v1, .i v2] =>
    (.test (decide (v2 < v1))
    (.test (inR v2 (ln v0))
    (let r0 : Rs := (Rt.res (m_value_May [U.i (cI (el v0 v2) 0), U.i (cI (el v0 v2) 1), U.s (cS (el v0 v2) 2)]))
    (.test (ok r0 0)
    (.test (!uB (out r0 0) 0)
    (.stop 0 [.i v2])
    (.next [.l v0, .i v1, .i (w64 (v2 + (1 : Int)))]))
    .fail))
    .fail)
    (.stop 1 []))
  | _ => .fail
def sp_row_May_97_2 : LSp := ⟨19, ⟨[(0, .one (.l 34)), (1, .fn 75 []), (7, .one (.i .i64)), (8, .one (.i .i64))], []⟩, [(.ret, ⟨[(4, .one (.i .i64))], []⟩), (.exit 0, ⟨[], []⟩)]⟩
set_option maxRecDepth 100000 in
theorem rq_row_May_97_2 (v0 : List (List PV)) (v1 : Int) (v2 : Int) : runK br Tryd.prog (callK br Tryd.prog X106 M_row_May L_row_May (lsT []) 40) M_row_May (lsT [] 97 0) 40 0 (L_row_May 97) (bodyOf Tryd.prog 97 2) (sp_row_May_97_2.s.ts sp_row_May_97_2.n [.l v0, .i v1, .i v2]) (sp_row_May_97_2.s.h [.l v0, .i v1, .i v2]) (idc Tryd.prog 0 (L_row_May 97) 2) =
    (rd_row_May_97_2 [.l v0, .i v1, .i v2]).go br (fun us' => some (.normal, sp_row_May_97_2.s.ts sp_row_May_97_2.n us', sp_row_May_97_2.s.h us')) sp_row_May_97_2.fin := by
  rw [← callF_eq, ← runF_eq]; kernel_rfl
theorem lo_row_May_97_2 {R : Type} : LoopTells Tryd.prog X106 M_row_May L_row_May 0 (L_row_May 97) (bodyOf Tryd.prog 97 2) (gL (R := R) sp_row_May_97_2 rd_row_May_97_2 br) :=
  loopTold (callK_ev (loopsOK_list rids noneIn) 40) (lsokIn (loopsOK_list rids noneIn) 97 0 2) (by kernel_rfl) sp_row_May_97_2 rd_row_May_97_2 rfl (by kernel_rfl) (by
    intro us v h; unfold rd_row_May_97_2 at h; split at h
    · rename_i v0 v1 v2; exact rq_row_May_97_2 v0 v1 v2
    · cases h)
noncomputable abbrev ll_row_May_97_2 {R : Type} : List (Nat × Nat × Nat × Smy R) := (97, 0, 2, gL sp_row_May_97_2 rd_row_May_97_2 br) :: []
theorem lk_row_May_97_2 {R : Type} : ∀ e ∈ ll_row_May_97_2 (R := R), LoopTells Tryd.prog X106 M_row_May L_row_May e.2.1 (L_row_May e.1) (bodyOf Tryd.prog e.1 e.2.2.1) e.2.2.2 := List.forall_mem_cons.2 ⟨lo_row_May_97_2, noneIn⟩
def S_row_May : FSp := ⟨[.one (.l 34)], [], [], [([.one (.b)], [])]⟩
noncomputable def m_row_May : List U → Rt
  | [.l v0] =>
    (.test (decide (ln v0 ≤ (40 : Int)))
    (let r0 : Rs := (lres rd_row_May_97_2 [U.l v0, U.i (ln v0), U.i (0 : Int)])
    (.test (ok r0 0)
    (.stop 0 [.b (!decide (uI (out r0 0) 0 ≥ (0 : Int)))])
    (.test (ok r0 1)
    (.stop 0 [.b true])
    .fail)))
    (.stop 0 [.b false]))
  | _ => .fail
set_option maxRecDepth 100000 in
theorem q_row_May (v0 : List (List PV)) : callK br Tryd.prog X106 M_row_May L_row_May (lsT ll_row_May_97_2) 60 50 (encs [.l v0] 0 S_row_May.ap) (encH [.l v0] (ws S_row_May.ap) S_row_May.ah) (fun y => fixR Tryd.prog S_row_May.plan S_row_May.ah.length y) =
    (m_row_May [.l v0]).go br (fun _ => none) S_row_May.fin := by
  rw [← callF_eq]; kernel_rfl
theorem e_row_May : EOK Tryd.prog 50 (gF S_row_May m_row_May) :=
  eokTold mixed named x106 (loopsOK_list rids lk_row_May_97_2) 60 S_row_May m_row_May (by
    intro us v h; unfold m_row_May at h; split at h
    · rename_i v0; exact q_row_May v0
    · cases h) false
noncomputable abbrev X107 : Ext := extT [(50, (gF S_row_May m_row_May))] X106
theorem x107 : XOK Tryd.prog X107 := xok1 x106 e_row_May

/-- levee/bag.Of -/
def L_bag_Of : FuncId → Nat → Option (List Nat) := liveT [(25, 3, [117000003, 6, 7, 8]), (25, 1000003, [3]), (25, 2000003, [2])]
def M_bag_Of : FuncId → Bool := fun _ => false
noncomputable def rd_bag_Of_25_3 : List U → Rt
  | [.l v0, .i v1, .i v2, .l v3] =>
    (.test (decide (v2 < v1))
    (.test (inR v2 (ln v0))
    (let r0 : Rs := (Rt.res (m_row_May [U.l (cL (el v0 v2) 0)]))
    (.test (ok r0 0)
    (.test (!uB (out r0 0) 0)
    (.stop 0 [])
    (.test (decide ((List.length v3 + 1) * 32 ≤ 140737488355328))
    (.next [.l v0, .i v1, .i (w64 (v2 + (1 : Int))), .l (v3 ++ [[PV.lst 34 (cL (el v0 v2) 0), pI (1 : Int)]])])
    .fail))
    .fail))
    .fail)
    (.stop 1 [.l v3]))
  | _ => .fail
def sp_bag_Of_25_3 : LSp := ⟨23, ⟨[(3, .one (.all 0)), (6, .one (.l 26)), (7, .one (.i .i64)), (8, .one (.i .i64))], [.arr 58 true]⟩, [(.ret, ⟨[(2, .one (.nils))], []⟩), (.exit 0, ⟨[(3, .one (.all 0))], [.arr 58 true]⟩)]⟩
set_option maxRecDepth 100000 in
theorem rq_bag_Of_25_3 (v0 : List (List PV)) (v1 : Int) (v2 : Int) (v3 : List (List PV)) : runK br Tryd.prog (callK br Tryd.prog X107 M_bag_Of L_bag_Of (lsT []) 40) M_bag_Of (lsT [] 25 0) 40 0 (L_bag_Of 25) (bodyOf Tryd.prog 25 3) (sp_bag_Of_25_3.s.ts sp_bag_Of_25_3.n [.l v0, .i v1, .i v2, .l v3]) (sp_bag_Of_25_3.s.h [.l v0, .i v1, .i v2, .l v3]) (idc Tryd.prog 0 (L_bag_Of 25) 3) =
    (rd_bag_Of_25_3 [.l v0, .i v1, .i v2, .l v3]).go br (fun us' => some (.normal, sp_bag_Of_25_3.s.ts sp_bag_Of_25_3.n us', sp_bag_Of_25_3.s.h us')) sp_bag_Of_25_3.fin := by
  rw [← callF_eq, ← runF_eq]; kernel_rfl
theorem lo_bag_Of_25_3 {R : Type} : LoopTells Tryd.prog X107 M_bag_Of L_bag_Of 0 (L_bag_Of 25) (bodyOf Tryd.prog 25 3) (gL (R := R) sp_bag_Of_25_3 rd_bag_Of_25_3 br) :=
  loopTold (callK_ev (loopsOK_list rids noneIn) 40) (lsokIn (loopsOK_list rids noneIn) 25 0 3) (by kernel_rfl) sp_bag_Of_25_3 rd_bag_Of_25_3 rfl (by kernel_rfl) (by
    intro us v h; unfold rd_bag_Of_25_3 at h; split at h
    · rename_i v0 v1 v2 v3; exact rq_bag_Of_25_3 v0 v1 v2 v3
    · cases h)
noncomputable abbrev ll_bag_Of_25_3 {R : Type} : List (Nat × Nat × Nat × Smy R) := (25, 0, 3, gL sp_bag_Of_25_3 rd_bag_Of_25_3 br) :: []
theorem lk_bag_Of_25_3 {R : Type} : ∀ e ∈ ll_bag_Of_25_3 (R := R), LoopTells Tryd.prog X107 M_bag_Of L_bag_Of e.2.1 (L_bag_Of e.1) (bodyOf Tryd.prog e.1 e.2.2.1) e.2.2.2 := List.forall_mem_cons.2 ⟨lo_bag_Of_25_3, noneIn⟩
def S_bag_Of : FSp := ⟨[.one (.l 26)], [], [117000000], [([.one (.all 0)], [.arr 58 true])]⟩
noncomputable def m_bag_Of : List U → Rt
  | [.l v0] =>
    (let r0 : Rs := (lres rd_bag_Of_25_3 [U.l v0, U.i (ln v0), U.i (0 : Int), U.l []])
    (.test (ok r0 0)
    (.stop 0 [.l []])
    (.test (ok r0 1)
    (let r1 : Rs := (Rt.res (m_bag_Sum [U.l (uL (out r0 1) 0)]))
    (.test (ok r1 0)
    (.stop 0 [.l (uL (out r1 0) 0)])
    .fail))
    .fail)))
  | _ => .fail
set_option maxRecDepth 100000 in
theorem q_bag_Of (v0 : List (List PV)) : callK br Tryd.prog X107 M_bag_Of L_bag_Of (lsT ll_bag_Of_25_3) 60 25 (encs [.l v0] 0 S_bag_Of.ap) (encH [.l v0] (ws S_bag_Of.ap) S_bag_Of.ah) (fun y => fixR Tryd.prog S_bag_Of.plan S_bag_Of.ah.length y) =
    (m_bag_Of [.l v0]).go br (fun _ => none) S_bag_Of.fin := by
  rw [← callF_eq]; kernel_rfl
theorem e_bag_Of : EOK Tryd.prog 25 (gF S_bag_Of m_bag_Of) :=
  eokTold mixed named x107 (loopsOK_list rids lk_bag_Of_25_3) 60 S_bag_Of m_bag_Of (by
    intro us v h; unfold m_bag_Of at h; split at h
    · rename_i v0; exact q_bag_Of v0
    · cases h) false
noncomputable abbrev X108 : Ext := extT [(25, (gF S_bag_Of m_bag_Of))] X107
theorem x108 : XOK Tryd.prog X108 := xok1 x107 e_bag_Of

/-- levee/bag.fits -/
def L_bag_fits : FuncId → Nat → Option (List Nat) := liveT []
def M_bag_fits : FuncId → Bool := fun _ => false
def S_bag_fits : FSp := ⟨[.one (.i .i64)], [], [], [([.one (.b)], [])]⟩
noncomputable def m_bag_fits : List U → Rt
  | [.i v0] =>
    (.test (decide (v0 ≥ (-1000000000 : Int)))
    (.stop 0 [.b (decide (v0 ≤ (1000000000 : Int)))])
    (.stop 0 [.b false]))
  | _ => .fail
set_option maxRecDepth 100000 in
theorem q_bag_fits (v0 : Int) : callK br Tryd.prog X108 M_bag_fits L_bag_fits (lsT []) 60 55 (encs [.i v0] 0 S_bag_fits.ap) (encH [.i v0] (ws S_bag_fits.ap) S_bag_fits.ah) (fun y => fixR Tryd.prog S_bag_fits.plan S_bag_fits.ah.length y) =
    (m_bag_fits [.i v0]).go br (fun _ => none) S_bag_fits.fin := by
  rw [← callF_eq]; kernel_rfl
theorem e_bag_fits : EOK Tryd.prog 55 (gF S_bag_fits m_bag_fits) :=
  eokTold mixed named x108 (loopsOK_list rids noneIn) 60 S_bag_fits m_bag_fits (by
    intro us v h; unfold m_bag_fits at h; split at h
    · rename_i v0; exact q_bag_fits v0
    · cases h) false
noncomputable abbrev X109 : Ext := extT [(55, (gF S_bag_fits m_bag_fits))] X108
theorem x109 : XOK Tryd.prog X109 := xok1 x108 e_bag_fits

/-- levee/bag.May -/
def L_bag_May : FuncId → Nat → Option (List Nat) := liveT [(30, 2, [0, 5, 6, 7]), (30, 1000002, []), (30, 2000002, [2])]
def M_bag_May : FuncId → Bool := fun _ => false
noncomputable def rd_bag_May_30_2 : List U → Rt
  | [.l v0, .l v1, .i v2, .i v3] =>
    (.test (decide (v3 < v2))
    (.test (inR v3 (ln v1))
    (.test (cI (el v1 v3) 1 == (0 : Int))
    (.stop 0 [.b false])
    (let r0 : Rs := (Rt.res (m_bag_fits [U.i (cI (el v1 v3) 1)]))
    (.test (ok r0 0)
    (.test (!uB (out r0 0) 0)
    (.stop 0 [.b false])
    (let r1 : Rs := (Rt.res (m_row_May [U.l (cL (el v1 v3) 0)]))
    (.test (ok r1 0)
    (.test (!uB (out r1 0) 0)
    (.stop 0 [.b false])
    (.test (decide (v3 > (0 : Int)))
    (.test (inR (w64 (v3 - (1 : Int))) (ln v0))
    (let r2 : Rs := (Rt.res (m_row_Compare [U.l (cL (el v0 (w64 (v3 - (1 : Int)))) 0), U.l (cL (el v1 v3) 0)]))
    (.test (ok r2 0)
    (.test (decide (uI (out r2 0) 0 ≥ (0 : Int)))
    (.stop 0 [.b false])
    (.next [.l v0, .l v1, .i v2, .i (w64 (v3 + (1 : Int)))]))
    .fail))
    .fail)
    (.next [.l v0, .l v1, .i v2, .i (w64 (v3 + (1 : Int)))])))
    .fail)))
    .fail)))
    .fail)
    (.stop 1 []))
  | _ => .fail
def sp_bag_May_30_2 : LSp := ⟨44, ⟨[(0, .one (.l 58)), (5, .one (.l 58)), (6, .one (.i .i64)), (7, .one (.i .i64))], []⟩, [(.ret, ⟨[(2, .one (.b))], []⟩), (.exit 0, ⟨[], []⟩)]⟩
set_option maxRecDepth 100000 in
theorem rq_bag_May_30_2 (v0 : List (List PV)) (v1 : List (List PV)) (v2 : Int) (v3 : Int) : runK br Tryd.prog (callK br Tryd.prog X109 M_bag_May L_bag_May (lsT []) 40) M_bag_May (lsT [] 30 0) 40 0 (L_bag_May 30) (bodyOf Tryd.prog 30 2) (sp_bag_May_30_2.s.ts sp_bag_May_30_2.n [.l v0, .l v1, .i v2, .i v3]) (sp_bag_May_30_2.s.h [.l v0, .l v1, .i v2, .i v3]) (idc Tryd.prog 0 (L_bag_May 30) 2) =
    (rd_bag_May_30_2 [.l v0, .l v1, .i v2, .i v3]).go br (fun us' => some (.normal, sp_bag_May_30_2.s.ts sp_bag_May_30_2.n us', sp_bag_May_30_2.s.h us')) sp_bag_May_30_2.fin := by
  rw [← callF_eq, ← runF_eq]; kernel_rfl
theorem lo_bag_May_30_2 {R : Type} : LoopTells Tryd.prog X109 M_bag_May L_bag_May 0 (L_bag_May 30) (bodyOf Tryd.prog 30 2) (gL (R := R) sp_bag_May_30_2 rd_bag_May_30_2 br) :=
  loopTold (callK_ev (loopsOK_list rids noneIn) 40) (lsokIn (loopsOK_list rids noneIn) 30 0 2) (by kernel_rfl) sp_bag_May_30_2 rd_bag_May_30_2 rfl (by kernel_rfl) (by
    intro us v h; unfold rd_bag_May_30_2 at h; split at h
    · rename_i v0 v1 v2 v3; exact rq_bag_May_30_2 v0 v1 v2 v3
    · cases h)
noncomputable abbrev ll_bag_May_30_2 {R : Type} : List (Nat × Nat × Nat × Smy R) := (30, 0, 2, gL sp_bag_May_30_2 rd_bag_May_30_2 br) :: []
theorem lk_bag_May_30_2 {R : Type} : ∀ e ∈ ll_bag_May_30_2 (R := R), LoopTells Tryd.prog X109 M_bag_May L_bag_May e.2.1 (L_bag_May e.1) (bodyOf Tryd.prog e.1 e.2.2.1) e.2.2.2 := List.forall_mem_cons.2 ⟨lo_bag_May_30_2, noneIn⟩
def S_bag_May : FSp := ⟨[.one (.l 58)], [], [], [([.one (.b)], [])]⟩
noncomputable def m_bag_May : List U → Rt
  | [.l v0] =>
    (let r0 : Rs := (lres rd_bag_May_30_2 [U.l v0, U.l v0, U.i (ln v0), U.i (0 : Int)])
    (.test (ok r0 0)
    (.stop 0 [.b (uB (out r0 0) 0)])
    (.test (ok r0 1)
    (.stop 0 [.b true])
    .fail)))
  | _ => .fail
set_option maxRecDepth 100000 in
theorem q_bag_May (v0 : List (List PV)) : callK br Tryd.prog X109 M_bag_May L_bag_May (lsT ll_bag_May_30_2) 60 30 (encs [.l v0] 0 S_bag_May.ap) (encH [.l v0] (ws S_bag_May.ap) S_bag_May.ah) (fun y => fixR Tryd.prog S_bag_May.plan S_bag_May.ah.length y) =
    (m_bag_May [.l v0]).go br (fun _ => none) S_bag_May.fin := by
  rw [← callF_eq]; kernel_rfl
theorem e_bag_May : EOK Tryd.prog 30 (gF S_bag_May m_bag_May) :=
  eokTold mixed named x109 (loopsOK_list rids lk_bag_May_30_2) 60 S_bag_May m_bag_May (by
    intro us v h; unfold m_bag_May at h; split at h
    · rename_i v0; exact q_bag_May v0
    · cases h) false
noncomputable abbrev X110 : Ext := extT [(30, (gF S_bag_May m_bag_May))] X109
theorem x110 : XOK Tryd.prog X110 := xok1 x109 e_bag_May

/-- levee/bag.Rows -/
def L_bag_Rows : FuncId → Nat → Option (List Nat) := liveT [(33, 10, [53000004, 6, 10, 11, 12, 28, 29]), (33, 1000010, [4, 10, 11, 12]), (33, 2000010, [2, 3]), (33, 5, [53000004, 10, 11, 12]), (33, 1000005, [4]), (33, 2000005, [2, 3])]
def M_bag_Rows : FuncId → Bool := fun _ => false
noncomputable def rd_bag_Rows_33_10 : List U → Rt
  | [.l v0, .i v1, .i v2, .i v3, .i v4, .l v5, .l v6, .i v7] =>
    (.test (decide (v4 < v3))
    (.test (decide ((0 + List.length v6) * 32 ≤ 140737488355328))
    (.test (decide ((List.length v5 + 1) * 24 ≤ 140737488355328))
    (.next [.l v0, .i v1, .i v2, .i v3, .i (w64 (v4 + (1 : Int))), .l (v5 ++ [[PV.lst 34 v6]]), .l v6, .i v7])
    .fail)
    .fail)
    (.stop 0 [.l v0, .i v1, .i v2, .l v5]))
  | _ => .fail
def sp_bag_Rows_33_10 : LSp := ⟨40, ⟨[(4, .one (.all 0)), (6, .one (.ptr 1 0)), (10, .one (.l 58)), (11, .one (.i .i64)), (12, .one (.i .i64)), (28, .one (.i .i64)), (29, .one (.i .i64))], [.arr 26 true, .box 58 [.one (.l 34), .one (.i .i64)]]⟩, [(.exit 2, ⟨[(4, .one (.all 0)), (10, .one (.l 58)), (11, .one (.i .i64)), (12, .one (.i .i64))], [.arr 26 true]⟩)]⟩
set_option maxRecDepth 100000 in
theorem rq_bag_Rows_33_10 (v0 : List (List PV)) (v1 : Int) (v2 : Int) (v3 : Int) (v4 : Int) (v5 : List (List PV)) (v6 : List (List PV)) (v7 : Int) : runK br Tryd.prog (callK br Tryd.prog X110 M_bag_Rows L_bag_Rows (lsT []) 40) M_bag_Rows (lsT [] 33 0) 40 0 (L_bag_Rows 33) (bodyOf Tryd.prog 33 10) (sp_bag_Rows_33_10.s.ts sp_bag_Rows_33_10.n [.l v0, .i v1, .i v2, .i v3, .i v4, .l v5, .l v6, .i v7]) (sp_bag_Rows_33_10.s.h [.l v0, .i v1, .i v2, .i v3, .i v4, .l v5, .l v6, .i v7]) (idc Tryd.prog 0 (L_bag_Rows 33) 10) =
    (rd_bag_Rows_33_10 [.l v0, .i v1, .i v2, .i v3, .i v4, .l v5, .l v6, .i v7]).go br (fun us' => some (.normal, sp_bag_Rows_33_10.s.ts sp_bag_Rows_33_10.n us', sp_bag_Rows_33_10.s.h us')) sp_bag_Rows_33_10.fin := by
  rw [← callF_eq, ← runF_eq]; kernel_rfl
theorem lo_bag_Rows_33_10 {R : Type} : LoopTells Tryd.prog X110 M_bag_Rows L_bag_Rows 0 (L_bag_Rows 33) (bodyOf Tryd.prog 33 10) (gL (R := R) sp_bag_Rows_33_10 rd_bag_Rows_33_10 br) :=
  loopTold (callK_ev (loopsOK_list rids noneIn) 40) (lsokIn (loopsOK_list rids noneIn) 33 0 10) (by kernel_rfl) sp_bag_Rows_33_10 rd_bag_Rows_33_10 rfl (by kernel_rfl) (by
    intro us v h; unfold rd_bag_Rows_33_10 at h; split at h
    · rename_i v0 v1 v2 v3 v4 v5 v6 v7; exact rq_bag_Rows_33_10 v0 v1 v2 v3 v4 v5 v6 v7
    · cases h)
noncomputable abbrev ll_bag_Rows_33_10 {R : Type} : List (Nat × Nat × Nat × Smy R) := (33, 0, 10, gL sp_bag_Rows_33_10 rd_bag_Rows_33_10 br) :: []
theorem lk_bag_Rows_33_10 {R : Type} : ∀ e ∈ ll_bag_Rows_33_10 (R := R), LoopTells Tryd.prog X110 M_bag_Rows L_bag_Rows e.2.1 (L_bag_Rows e.1) (bodyOf Tryd.prog e.1 e.2.2.1) e.2.2.2 := List.forall_mem_cons.2 ⟨lo_bag_Rows_33_10, noneIn⟩
noncomputable def rd_bag_Rows_33_5 : List U → Rt
  | [.l v0, .i v1, .i v2, .l v3] =>
    (.test (decide (v2 < v1))
    (.test (inR v2 (ln v0))
    (.test (decide (cI (el v0 v2) 1 < (0 : Int)))
    (.stop 0 [.b false])
    (.test (decide (cI (el v0 v2) 1 > w64 ((100000 : Int) - ln v3)))
    (.stop 0 [.b false])
    (let r0 : Rs := (lres rd_bag_Rows_33_10 [U.l v0, U.i v1, U.i v2, U.i (cI (el v0 v2) 1), U.i (0 : Int), U.l v3, U.l (cL (el v0 v2) 0), U.i (cI (el v0 v2) 1)])
    (.test (ok r0 0)
    (.next [.l (uL (out r0 0) 0), .i (uI (out r0 0) 1), .i (w64 (uI (out r0 0) 2 + (1 : Int))), .l (uL (out r0 0) 3)])
    .fail))))
    .fail)
    (.stop 1 [.l v3]))
  | _ => .fail
def sp_bag_Rows_33_5 : LSp := ⟨40, ⟨[(4, .one (.all 0)), (10, .one (.l 58)), (11, .one (.i .i64)), (12, .one (.i .i64))], [.arr 26 true]⟩, [(.ret, ⟨[(2, .one (.nils)), (3, .one (.b))], []⟩), (.exit 0, ⟨[(4, .one (.all 0))], [.arr 26 true]⟩)]⟩
set_option maxRecDepth 100000 in
theorem rq_bag_Rows_33_5 (v0 : List (List PV)) (v1 : Int) (v2 : Int) (v3 : List (List PV)) : runK br Tryd.prog (callK br Tryd.prog X110 M_bag_Rows L_bag_Rows (lsT ll_bag_Rows_33_10) 40) M_bag_Rows (lsT ll_bag_Rows_33_10 33 0) 40 0 (L_bag_Rows 33) (bodyOf Tryd.prog 33 5) (sp_bag_Rows_33_5.s.ts sp_bag_Rows_33_5.n [.l v0, .i v1, .i v2, .l v3]) (sp_bag_Rows_33_5.s.h [.l v0, .i v1, .i v2, .l v3]) (idc Tryd.prog 0 (L_bag_Rows 33) 5) =
    (rd_bag_Rows_33_5 [.l v0, .i v1, .i v2, .l v3]).go br (fun us' => some (.normal, sp_bag_Rows_33_5.s.ts sp_bag_Rows_33_5.n us', sp_bag_Rows_33_5.s.h us')) sp_bag_Rows_33_5.fin := by
  rw [← callF_eq, ← runF_eq]; kernel_rfl
theorem lo_bag_Rows_33_5 {R : Type} : LoopTells Tryd.prog X110 M_bag_Rows L_bag_Rows 0 (L_bag_Rows 33) (bodyOf Tryd.prog 33 5) (gL (R := R) sp_bag_Rows_33_5 rd_bag_Rows_33_5 br) :=
  loopTold (callK_ev (loopsOK_list rids lk_bag_Rows_33_10) 40) (lsokIn (loopsOK_list rids lk_bag_Rows_33_10) 33 0 5) (by kernel_rfl) sp_bag_Rows_33_5 rd_bag_Rows_33_5 rfl (by kernel_rfl) (by
    intro us v h; unfold rd_bag_Rows_33_5 at h; split at h
    · rename_i v0 v1 v2 v3; exact rq_bag_Rows_33_5 v0 v1 v2 v3
    · cases h)
noncomputable abbrev ll_bag_Rows_33_5 {R : Type} : List (Nat × Nat × Nat × Smy R) := (33, 0, 5, gL sp_bag_Rows_33_5 rd_bag_Rows_33_5 br) :: ll_bag_Rows_33_10
theorem lk_bag_Rows_33_5 {R : Type} : ∀ e ∈ ll_bag_Rows_33_5 (R := R), LoopTells Tryd.prog X110 M_bag_Rows L_bag_Rows e.2.1 (L_bag_Rows e.1) (bodyOf Tryd.prog e.1 e.2.2.1) e.2.2.2 := List.forall_mem_cons.2 ⟨lo_bag_Rows_33_5, lk_bag_Rows_33_10⟩
def S_bag_Rows : FSp := ⟨[.one (.l 58)], [], [53000000], [([.one (.all 0), .one (.b)], [.arr 26 true])]⟩
noncomputable def m_bag_Rows : List U → Rt
  | [.l v0] =>
    (let r0 : Rs := (Rt.res (m_bag_May [U.l v0]))
    (.test (ok r0 0)
    (.test (!uB (out r0 0) 0)
    (.stop 0 [.b false, .l []])
    (let r1 : Rs := (lres rd_bag_Rows_33_5 [U.l v0, U.i (ln v0), U.i (0 : Int), U.l []])
    (.test (ok r1 0)
    (.stop 0 [.b (uB (out r1 0) 0), .l []])
    (.test (ok r1 1)
    (.stop 0 [.b true, .l (uL (out r1 1) 0)])
    .fail))))
    .fail))
  | _ => .fail
set_option maxRecDepth 100000 in
theorem q_bag_Rows (v0 : List (List PV)) : callK br Tryd.prog X110 M_bag_Rows L_bag_Rows (lsT ll_bag_Rows_33_5) 60 33 (encs [.l v0] 0 S_bag_Rows.ap) (encH [.l v0] (ws S_bag_Rows.ap) S_bag_Rows.ah) (fun y => fixR Tryd.prog S_bag_Rows.plan S_bag_Rows.ah.length y) =
    (m_bag_Rows [.l v0]).go br (fun _ => none) S_bag_Rows.fin := by
  rw [← callF_eq]; kernel_rfl
theorem e_bag_Rows : EOK Tryd.prog 33 (gF S_bag_Rows m_bag_Rows) :=
  eokTold mixed named x110 (loopsOK_list rids lk_bag_Rows_33_5) 60 S_bag_Rows m_bag_Rows (by
    intro us v h; unfold m_bag_Rows at h; split at h
    · rename_i v0; exact q_bag_Rows v0
    · cases h) false
noncomputable abbrev X111 : Ext := extT [(33, (gF S_bag_Rows m_bag_Rows))] X110
theorem x111 : XOK Tryd.prog X111 := xok1 x110 e_bag_Rows

/-- levee/bag.Neg -/
def L_bag_Neg : FuncId → Nat → Option (List Nat) := liveT [(29, 5, [3, 11, 12]), (29, 1000005, [3]), (29, 2000005, [2])]
def M_bag_Neg : FuncId → Bool := fun _ => false
noncomputable def rd_bag_Neg_29_5 : List U → Rt
  | [.i v0, .i v1, .l v2] =>
    (.test (decide (v1 < v0))
    (.test (inR v1 (ln v2))
    (.test (decide (Int.toNat v1 < List.length v2))
    (.test (inR v1 (ln v2))
    (.test (decide (Int.toNat v1 < List.length v2))
    (.next [.i v0, .i (w64 (v1 + (1 : Int))), .l (List.set v2 (Int.toNat v1) (setCells (el v2 v1) 1 [pI (w64 ((0 : Int) - cI (el v2 v1) 1))]))])
    .fail)
    .fail)
    .fail)
    .fail)
    (.stop 0 [.l v2]))
  | _ => .fail
def sp_bag_Neg_29_5 : LSp := ⟨27, ⟨[(3, .one (.all 0)), (11, .one (.i .i64)), (12, .one (.i .i64))], [.arr 58 true]⟩, [(.exit 0, ⟨[(3, .one (.all 0))], [.arr 58 true]⟩)]⟩
set_option maxRecDepth 100000 in
theorem rq_bag_Neg_29_5 (v0 : Int) (v1 : Int) (v2 : List (List PV)) : runK br Tryd.prog (callK br Tryd.prog X111 M_bag_Neg L_bag_Neg (lsT []) 40) M_bag_Neg (lsT [] 29 0) 40 0 (L_bag_Neg 29) (bodyOf Tryd.prog 29 5) (sp_bag_Neg_29_5.s.ts sp_bag_Neg_29_5.n [.i v0, .i v1, .l v2]) (sp_bag_Neg_29_5.s.h [.i v0, .i v1, .l v2]) (idc Tryd.prog 0 (L_bag_Neg 29) 5) =
    (rd_bag_Neg_29_5 [.i v0, .i v1, .l v2]).go br (fun us' => some (.normal, sp_bag_Neg_29_5.s.ts sp_bag_Neg_29_5.n us', sp_bag_Neg_29_5.s.h us')) sp_bag_Neg_29_5.fin := by
  rw [← callF_eq, ← runF_eq]; kernel_rfl
theorem lo_bag_Neg_29_5 {R : Type} : LoopTells Tryd.prog X111 M_bag_Neg L_bag_Neg 0 (L_bag_Neg 29) (bodyOf Tryd.prog 29 5) (gL (R := R) sp_bag_Neg_29_5 rd_bag_Neg_29_5 br) :=
  loopTold (callK_ev (loopsOK_list rids noneIn) 40) (lsokIn (loopsOK_list rids noneIn) 29 0 5) (by kernel_rfl) sp_bag_Neg_29_5 rd_bag_Neg_29_5 rfl (by kernel_rfl) (by
    intro us v h; unfold rd_bag_Neg_29_5 at h; split at h
    · rename_i v0 v1 v2; exact rq_bag_Neg_29_5 v0 v1 v2
    · cases h)
noncomputable abbrev ll_bag_Neg_29_5 {R : Type} : List (Nat × Nat × Nat × Smy R) := (29, 0, 5, gL sp_bag_Neg_29_5 rd_bag_Neg_29_5 br) :: []
theorem lk_bag_Neg_29_5 {R : Type} : ∀ e ∈ ll_bag_Neg_29_5 (R := R), LoopTells Tryd.prog X111 M_bag_Neg L_bag_Neg e.2.1 (L_bag_Neg e.1) (bodyOf Tryd.prog e.1 e.2.2.1) e.2.2.2 := List.forall_mem_cons.2 ⟨lo_bag_Neg_29_5, noneIn⟩
def S_bag_Neg : FSp := ⟨[.one (.l 58)], [], [117000000], [([.one (.all 0)], [.arr 58 true])]⟩
noncomputable def m_bag_Neg : List U → Rt
  | [.l v0] =>
    (let r0 : Rs := (Rt.res (m_bag_May [U.l v0]))
    (.test (ok r0 0)
    (.test (!uB (out r0 0) 0)
    (.stop 0 [.l []])
    (let r1 : Rs := (Rt.res (m_bag_Sum [U.l v0]))
    (.test (ok r1 0)
    (let r2 : Rs := (lres rd_bag_Neg_29_5 [U.i (ln (uL (out r1 0) 0)), U.i (0 : Int), U.l (uL (out r1 0) 0)])
    (.test (ok r2 0)
    (.stop 0 [.l (uL (out r2 0) 0)])
    .fail))
    .fail)))
    .fail))
  | _ => .fail
set_option maxRecDepth 100000 in
theorem q_bag_Neg (v0 : List (List PV)) : callK br Tryd.prog X111 M_bag_Neg L_bag_Neg (lsT ll_bag_Neg_29_5) 60 29 (encs [.l v0] 0 S_bag_Neg.ap) (encH [.l v0] (ws S_bag_Neg.ap) S_bag_Neg.ah) (fun y => fixR Tryd.prog S_bag_Neg.plan S_bag_Neg.ah.length y) =
    (m_bag_Neg [.l v0]).go br (fun _ => none) S_bag_Neg.fin := by
  rw [← callF_eq]; kernel_rfl
theorem e_bag_Neg : EOK Tryd.prog 29 (gF S_bag_Neg m_bag_Neg) :=
  eokTold mixed named x111 (loopsOK_list rids lk_bag_Neg_29_5) 60 S_bag_Neg m_bag_Neg (by
    intro us v h; unfold m_bag_Neg at h; split at h
    · rename_i v0; exact q_bag_Neg v0
    · cases h) false
noncomputable abbrev X112 : Ext := extT [(29, (gF S_bag_Neg m_bag_Neg))] X111
theorem x112 : XOK Tryd.prog X112 := xok1 x111 e_bag_Neg

/-- internal/strconv.FormatBool -/
def L_strconv_FormatBool : FuncId → Nat → Option (List Nat) := liveT []
def M_strconv_FormatBool : FuncId → Bool := fun _ => false
def S_strconv_FormatBool : FSp := ⟨[.one (.b)], [], [], [([.one (.s)], [])]⟩
noncomputable def m_strconv_FormatBool : List U → Rt
  | [.b v0] =>
    (.test v0
    (.stop 0 [.s ({ data := #[(116 : UInt8), (114 : UInt8), (117 : UInt8), (101 : UInt8)] })])
    (.stop 0 [.s ({ data := #[(102 : UInt8), (97 : UInt8), (108 : UInt8), (115 : UInt8), (101 : UInt8)] })]))
  | _ => .fail
set_option maxRecDepth 100000 in
theorem q_strconv_FormatBool (v0 : Bool) : callK br Tryd.prog X112 M_strconv_FormatBool L_strconv_FormatBool (lsT []) 60 104 (encs [.b v0] 0 S_strconv_FormatBool.ap) (encH [.b v0] (ws S_strconv_FormatBool.ap) S_strconv_FormatBool.ah) (fun y => fixR Tryd.prog S_strconv_FormatBool.plan S_strconv_FormatBool.ah.length y) =
    (m_strconv_FormatBool [.b v0]).go br (fun _ => none) S_strconv_FormatBool.fin := by
  rw [← callF_eq]; kernel_rfl
theorem e_strconv_FormatBool : EOK Tryd.prog 104 (gF S_strconv_FormatBool m_strconv_FormatBool) :=
  eokTold mixed named x112 (loopsOK_list rids noneIn) 60 S_strconv_FormatBool m_strconv_FormatBool (by
    intro us v h; unfold m_strconv_FormatBool at h; split at h
    · rename_i v0; exact q_strconv_FormatBool v0
    · cases h) false
noncomputable abbrev X113 : Ext := extT [(104, (gF S_strconv_FormatBool m_strconv_FormatBool))] X112
theorem x113 : XOK Tryd.prog X113 := xok1 x112 e_strconv_FormatBool

/-- levee/value.Text -/
def L_value_Text : FuncId → Nat → Option (List Nat) := liveT []
def M_value_Text : FuncId → Bool := fun _ => false
def S_value_Text : FSp := ⟨[.agg [.i .i64, .i .i64, .s]], [], [], [([.one (.s)], [])]⟩
noncomputable def m_value_Text : List U → Rt
  | [.i v0, .i v1, .s v2] =>
    (.test (v0 == (0 : Int))
    (.stop 0 [.s ({ data := #[(110 : UInt8), (117 : UInt8), (108 : UInt8), (108 : UInt8)] })])
    (.test (v0 == (1 : Int))
    (let r0 : Rs := (Rt.res (m_strconv_FormatBool [U.b (v1 != (0 : Int))]))
    (.test (ok r0 0)
    (.stop 0 [.s (uS (out r0 0) 0)])
    .fail))
    (.test (v0 == (2 : Int))
    (.test (inI64 v1)
    (.stop 0 [.s (itoaB v1)])
    .fail)
    (.test (v0 == (3 : Int))
    (.test (replOk v2 { data := #[(39 : UInt8)] } { data := #[(39 : UInt8), (39 : UInt8)] })
    (.test (decide (1 + ByteArray.size (replB v2 { data := #[(39 : UInt8)] } { data := #[(39 : UInt8), (39 : UInt8)] }) ≤ 9223372036854775807))
    (.test (decide (ByteArray.size ({ data := #[(39 : UInt8)] } ++ replB v2 { data := #[(39 : UInt8)] } { data := #[(39 : UInt8), (39 : UInt8)] }) + 1 ≤ 9223372036854775807))
    (.stop 0 [.s ({ data := #[(39 : UInt8)] } ++ replB v2 { data := #[(39 : UInt8)] } { data := #[(39 : UInt8), (39 : UInt8)] } ++ { data := #[(39 : UInt8)] })])
    .fail)
    .fail)
    .fail)
    (.stop 0 [.s ({ data := #[(63 : UInt8)] })])))))
  | _ => .fail
set_option maxRecDepth 100000 in
theorem q_value_Text (v0 : Int) (v1 : Int) (v2 : ByteArray) : callK br Tryd.prog X113 M_value_Text L_value_Text (lsT []) 60 64 (encs [.i v0, .i v1, .s v2] 0 S_value_Text.ap) (encH [.i v0, .i v1, .s v2] (ws S_value_Text.ap) S_value_Text.ah) (fun y => fixR Tryd.prog S_value_Text.plan S_value_Text.ah.length y) =
    (m_value_Text [.i v0, .i v1, .s v2]).go br (fun _ => none) S_value_Text.fin := by
  rw [← callF_eq]; kernel_rfl
theorem e_value_Text : EOK Tryd.prog 64 (gF S_value_Text m_value_Text) :=
  eokTold mixed named x113 (loopsOK_list rids noneIn) 60 S_value_Text m_value_Text (by
    intro us v h; unfold m_value_Text at h; split at h
    · rename_i v0 v1 v2; exact q_value_Text v0 v1 v2
    · cases h) false
noncomputable abbrev X114 : Ext := extT [(64, (gF S_value_Text m_value_Text))] X113
theorem x114 : XOK Tryd.prog X114 := xok1 x113 e_value_Text

/-- levee/row.Text -/
def L_row_Text : FuncId → Nat → Option (List Nat) := liveT [(60, 3, [19000003, 6, 7, 8]), (60, 1000003, [3]), (60, 2000003, [2])]
def M_row_Text : FuncId → Bool := fun _ => false
noncomputable def rd_row_Text_60_3 : List U → Rt
  | [.l v0, .i v1, .i v2, .l v3] =>
    (.test (decide (v2 < v1))
    (.test (inR v2 (ln v0))
    (let r0 : Rs := (Rt.res (m_value_Text [U.i (cI (el v0 v2) 0), U.i (cI (el v0 v2) 1), U.s (cS (el v0 v2) 2)]))
    (.test (ok r0 0)
    (.test (decide ((List.length v3 + 1) * 16 ≤ 140737488355328))
    (.next [.l v0, .i v1, .i (w64 (v2 + (1 : Int))), .l (v3 ++ [[pS (uS (out r0 0) 0)]])])
    .fail)
    .fail))
    .fail)
    (.stop 0 [.l v3]))
  | _ => .fail
def sp_row_Text_60_3 : LSp := ⟨22, ⟨[(3, .one (.all 0)), (6, .one (.l 34)), (7, .one (.i .i64)), (8, .one (.i .i64))], [.arr 9 true]⟩, [(.exit 0, ⟨[(3, .one (.all 0))], [.arr 9 true]⟩)]⟩
set_option maxRecDepth 100000 in
theorem rq_row_Text_60_3 (v0 : List (List PV)) (v1 : Int) (v2 : Int) (v3 : List (List PV)) : runK br Tryd.prog (callK br Tryd.prog X114 M_row_Text L_row_Text (lsT []) 40) M_row_Text (lsT [] 60 0) 40 0 (L_row_Text 60) (bodyOf Tryd.prog 60 3) (sp_row_Text_60_3.s.ts sp_row_Text_60_3.n [.l v0, .i v1, .i v2, .l v3]) (sp_row_Text_60_3.s.h [.l v0, .i v1, .i v2, .l v3]) (idc Tryd.prog 0 (L_row_Text 60) 3) =
    (rd_row_Text_60_3 [.l v0, .i v1, .i v2, .l v3]).go br (fun us' => some (.normal, sp_row_Text_60_3.s.ts sp_row_Text_60_3.n us', sp_row_Text_60_3.s.h us')) sp_row_Text_60_3.fin := by
  rw [← callF_eq, ← runF_eq]; kernel_rfl
theorem lo_row_Text_60_3 {R : Type} : LoopTells Tryd.prog X114 M_row_Text L_row_Text 0 (L_row_Text 60) (bodyOf Tryd.prog 60 3) (gL (R := R) sp_row_Text_60_3 rd_row_Text_60_3 br) :=
  loopTold (callK_ev (loopsOK_list rids noneIn) 40) (lsokIn (loopsOK_list rids noneIn) 60 0 3) (by kernel_rfl) sp_row_Text_60_3 rd_row_Text_60_3 rfl (by kernel_rfl) (by
    intro us v h; unfold rd_row_Text_60_3 at h; split at h
    · rename_i v0 v1 v2 v3; exact rq_row_Text_60_3 v0 v1 v2 v3
    · cases h)
noncomputable abbrev ll_row_Text_60_3 {R : Type} : List (Nat × Nat × Nat × Smy R) := (60, 0, 3, gL sp_row_Text_60_3 rd_row_Text_60_3 br) :: []
theorem lk_row_Text_60_3 {R : Type} : ∀ e ∈ ll_row_Text_60_3 (R := R), LoopTells Tryd.prog X114 M_row_Text L_row_Text e.2.1 (L_row_Text e.1) (bodyOf Tryd.prog e.1 e.2.2.1) e.2.2.2 := List.forall_mem_cons.2 ⟨lo_row_Text_60_3, noneIn⟩
def S_row_Text : FSp := ⟨[.one (.l 34)], [], [], [([.one (.s)], [])]⟩
noncomputable def m_row_Text : List U → Rt
  | [.l v0] =>
    (let r0 : Rs := (lres rd_row_Text_60_3 [U.l v0, U.i (ln v0), U.i (0 : Int), U.l []])
    (.test (ok r0 0)
    (.test (joinOk (uL (out r0 0) 0) { data := #[(44 : UInt8), (32 : UInt8)] })
    (.test (decide (1 + ByteArray.size (joinB (uL (out r0 0) 0) { data := #[(44 : UInt8), (32 : UInt8)] }) ≤ 9223372036854775807))
    (.test (decide (ByteArray.size ({ data := #[(40 : UInt8)] } ++ joinB (uL (out r0 0) 0) { data := #[(44 : UInt8), (32 : UInt8)] }) + 1 ≤ 9223372036854775807))
    (.stop 0 [.s ({ data := #[(40 : UInt8)] } ++ joinB (uL (out r0 0) 0) { data := #[(44 : UInt8), (32 : UInt8)] } ++ { data := #[(41 : UInt8)] })])
    .fail)
    .fail)
    .fail)
    .fail))
  | _ => .fail
set_option maxRecDepth 100000 in
theorem q_row_Text (v0 : List (List PV)) : callK br Tryd.prog X114 M_row_Text L_row_Text (lsT ll_row_Text_60_3) 60 60 (encs [.l v0] 0 S_row_Text.ap) (encH [.l v0] (ws S_row_Text.ap) S_row_Text.ah) (fun y => fixR Tryd.prog S_row_Text.plan S_row_Text.ah.length y) =
    (m_row_Text [.l v0]).go br (fun _ => none) S_row_Text.fin := by
  rw [← callF_eq]; kernel_rfl
theorem e_row_Text : EOK Tryd.prog 60 (gF S_row_Text m_row_Text) :=
  eokTold mixed named x114 (loopsOK_list rids lk_row_Text_60_3) 60 S_row_Text m_row_Text (by
    intro us v h; unfold m_row_Text at h; split at h
    · rename_i v0; exact q_row_Text v0
    · cases h) false
noncomputable abbrev X115 : Ext := extT [(60, (gF S_row_Text m_row_Text))] X114
theorem x115 : XOK Tryd.prog X115 := xok1 x114 e_row_Text

/-- levee/bag.Text -/
def L_bag_Text : FuncId → Nat → Option (List Nat) := liveT [(36, 5, [19000003, 10, 11, 12]), (36, 1000005, [3]), (36, 2000005, [2])]
def M_bag_Text : FuncId → Bool := fun _ => false
noncomputable def rd_bag_Text_36_5 : List U → Rt
  | [.l v0, .i v1, .i v2, .l v3] =>
    (.test (decide (v2 < v1))
    (.test (inR v2 (ln v0))
    (let r0 : Rs := (Rt.res (m_row_Text [U.l (cL (el v0 v2) 0)]))
    (.test (ok r0 0)
    (.test (cI (el v0 v2) 1 != (1 : Int))
    (.test (inI64 (cI (el v0 v2) 1))
    (.test (decide (1 + ByteArray.size (itoaB (cI (el v0 v2) 1)) ≤ 9223372036854775807))
    (.test (decide (ByteArray.size (uS (out r0 0) 0) + ByteArray.size ({ data := #[(42 : UInt8)] } ++ itoaB (cI (el v0 v2) 1)) ≤ 9223372036854775807))
    (.test (decide ((List.length v3 + 1) * 16 ≤ 140737488355328))
    (.next [.l v0, .i v1, .i (w64 (v2 + (1 : Int))), .l (v3 ++ [[pS (uS (out r0 0) 0 ++ ({ data := #[(42 : UInt8)] } ++ itoaB (cI (el v0 v2) 1)))]])])
    .fail)
    .fail)
    .fail)
    .fail)
    (.test (decide ((List.length v3 + 1) * 16 ≤ 140737488355328))
    (.next [.l v0, .i v1, .i (w64 (v2 + (1 : Int))), .l (v3 ++ [[pS (uS (out r0 0) 0)]])])
    .fail))
    .fail))
    .fail)
    (.stop 0 [.l v3]))
  | _ => .fail
def sp_bag_Text_36_5 : LSp := ⟨35, ⟨[(3, .one (.all 0)), (10, .one (.l 58)), (11, .one (.i .i64)), (12, .one (.i .i64))], [.arr 9 true]⟩, [(.exit 0, ⟨[(3, .one (.all 0))], [.arr 9 true]⟩)]⟩
set_option maxRecDepth 100000 in
theorem rq_bag_Text_36_5 (v0 : List (List PV)) (v1 : Int) (v2 : Int) (v3 : List (List PV)) : runK br Tryd.prog (callK br Tryd.prog X115 M_bag_Text L_bag_Text (lsT []) 40) M_bag_Text (lsT [] 36 0) 40 0 (L_bag_Text 36) (bodyOf Tryd.prog 36 5) (sp_bag_Text_36_5.s.ts sp_bag_Text_36_5.n [.l v0, .i v1, .i v2, .l v3]) (sp_bag_Text_36_5.s.h [.l v0, .i v1, .i v2, .l v3]) (idc Tryd.prog 0 (L_bag_Text 36) 5) =
    (rd_bag_Text_36_5 [.l v0, .i v1, .i v2, .l v3]).go br (fun us' => some (.normal, sp_bag_Text_36_5.s.ts sp_bag_Text_36_5.n us', sp_bag_Text_36_5.s.h us')) sp_bag_Text_36_5.fin := by
  rw [← callF_eq, ← runF_eq]; kernel_rfl
theorem lo_bag_Text_36_5 {R : Type} : LoopTells Tryd.prog X115 M_bag_Text L_bag_Text 0 (L_bag_Text 36) (bodyOf Tryd.prog 36 5) (gL (R := R) sp_bag_Text_36_5 rd_bag_Text_36_5 br) :=
  loopTold (callK_ev (loopsOK_list rids noneIn) 40) (lsokIn (loopsOK_list rids noneIn) 36 0 5) (by kernel_rfl) sp_bag_Text_36_5 rd_bag_Text_36_5 rfl (by kernel_rfl) (by
    intro us v h; unfold rd_bag_Text_36_5 at h; split at h
    · rename_i v0 v1 v2 v3; exact rq_bag_Text_36_5 v0 v1 v2 v3
    · cases h)
noncomputable abbrev ll_bag_Text_36_5 {R : Type} : List (Nat × Nat × Nat × Smy R) := (36, 0, 5, gL sp_bag_Text_36_5 rd_bag_Text_36_5 br) :: []
theorem lk_bag_Text_36_5 {R : Type} : ∀ e ∈ ll_bag_Text_36_5 (R := R), LoopTells Tryd.prog X115 M_bag_Text L_bag_Text e.2.1 (L_bag_Text e.1) (bodyOf Tryd.prog e.1 e.2.2.1) e.2.2.2 := List.forall_mem_cons.2 ⟨lo_bag_Text_36_5, noneIn⟩
def S_bag_Text : FSp := ⟨[.one (.l 58)], [], [], [([.one (.s)], [])]⟩
noncomputable def m_bag_Text : List U → Rt
  | [.l v0] =>
    (let r0 : Rs := (Rt.res (m_bag_May [U.l v0]))
    (.test (ok r0 0)
    (.test (!uB (out r0 0) 0)
    (.stop 0 [.s ({ data := #[] })])
    (let r1 : Rs := (lres rd_bag_Text_36_5 [U.l v0, U.i (ln v0), U.i (0 : Int), U.l []])
    (.test (ok r1 0)
    (.test (joinOk (uL (out r1 0) 0) { data := #[(32 : UInt8)] })
    (.stop 0 [.s (joinB (uL (out r1 0) 0) { data := #[(32 : UInt8)] })])
    .fail)
    .fail)))
    .fail))
  | _ => .fail
set_option maxRecDepth 100000 in
theorem q_bag_Text (v0 : List (List PV)) : callK br Tryd.prog X115 M_bag_Text L_bag_Text (lsT ll_bag_Text_36_5) 60 36 (encs [.l v0] 0 S_bag_Text.ap) (encH [.l v0] (ws S_bag_Text.ap) S_bag_Text.ah) (fun y => fixR Tryd.prog S_bag_Text.plan S_bag_Text.ah.length y) =
    (m_bag_Text [.l v0]).go br (fun _ => none) S_bag_Text.fin := by
  rw [← callF_eq]; kernel_rfl
theorem e_bag_Text : EOK Tryd.prog 36 (gF S_bag_Text m_bag_Text) :=
  eokTold mixed named x115 (loopsOK_list rids lk_bag_Text_36_5) 60 S_bag_Text m_bag_Text (by
    intro us v h; unfold m_bag_Text at h; split at h
    · rename_i v0; exact q_bag_Text v0
    · cases h) false
noncomputable abbrev X116 : Ext := extT [(36, (gF S_bag_Text m_bag_Text))] X115
theorem x116 : XOK Tryd.prog X116 := xok1 x115 e_bag_Text

/-- levee/bag.find -/
def L_bag_find : FuncId → Nat → Option (List Nat) := liveT [(81, 3, [0, 1, 2, 8, 9, 10]), (81, 1000003, [0, 1, 2, 8, 9]), (81, 2000003, [6, 7])]
def M_bag_find : FuncId → Bool := fun _ => false
noncomputable def rd_bag_find_81_3 : List U → Rt
  | [.l v0, .l v1, .i v2, .i v3, .i v4] =>
    (.test (decide (v3 < v4))
    (.test (inR (w64 (Int.fdiv (IntKind.wrap IntKind.u64 (w64 (v3 + v4))) (2 : Int))) (ln v0))
    (let r0 : Rs := (Rt.res (m_row_Compare [U.l (cL (el v0 (w64 (Int.fdiv (IntKind.wrap IntKind.u64 (w64 (v3 + v4))) (2 : Int)))) 0), U.l v1]))
    (.test (ok r0 0)
    (.test (decide (uI (out r0 0) 0 < (0 : Int)))
    (.next [.l v0, .l v1, .i v2, .i (w64 (w64 (Int.fdiv (IntKind.wrap IntKind.u64 (w64 (v3 + v4))) (2 : Int)) + (1 : Int))), .i v4])
    (.next [.l v0, .l v1, .i v2, .i v3, .i (w64 (Int.fdiv (IntKind.wrap IntKind.u64 (w64 (v3 + v4))) (2 : Int)))]))
    .fail))
    .fail)
    (.stop 0 [.l v0, .l v1, .i v2, .i v3]))
  | _ => .fail
def sp_bag_find_81_3 : LSp := ⟨49, ⟨[(0, .one (.l 58)), (1, .one (.l 34)), (2, .fn 82 []), (8, .one (.i .i64)), (9, .one (.i .i64)), (10, .one (.i .i64))], []⟩, [(.exit 0, ⟨[(0, .one (.l 58)), (1, .one (.l 34)), (2, .fn 82 []), (8, .one (.i .i64)), (9, .one (.i .i64))], []⟩)]⟩
set_option maxRecDepth 100000 in
theorem rq_bag_find_81_3 (v0 : List (List PV)) (v1 : List (List PV)) (v2 : Int) (v3 : Int) (v4 : Int) : runK br Tryd.prog (callK br Tryd.prog X116 M_bag_find L_bag_find (lsT []) 40) M_bag_find (lsT [] 81 0) 40 0 (L_bag_find 81) (bodyOf Tryd.prog 81 3) (sp_bag_find_81_3.s.ts sp_bag_find_81_3.n [.l v0, .l v1, .i v2, .i v3, .i v4]) (sp_bag_find_81_3.s.h [.l v0, .l v1, .i v2, .i v3, .i v4]) (idc Tryd.prog 0 (L_bag_find 81) 3) =
    (rd_bag_find_81_3 [.l v0, .l v1, .i v2, .i v3, .i v4]).go br (fun us' => some (.normal, sp_bag_find_81_3.s.ts sp_bag_find_81_3.n us', sp_bag_find_81_3.s.h us')) sp_bag_find_81_3.fin := by
  rw [← callF_eq, ← runF_eq]; kernel_rfl
theorem lo_bag_find_81_3 {R : Type} : LoopTells Tryd.prog X116 M_bag_find L_bag_find 0 (L_bag_find 81) (bodyOf Tryd.prog 81 3) (gL (R := R) sp_bag_find_81_3 rd_bag_find_81_3 br) :=
  loopTold (callK_ev (loopsOK_list rids noneIn) 40) (lsokIn (loopsOK_list rids noneIn) 81 0 3) (by kernel_rfl) sp_bag_find_81_3 rd_bag_find_81_3 rfl (by kernel_rfl) (by
    intro us v h; unfold rd_bag_find_81_3 at h; split at h
    · rename_i v0 v1 v2 v3 v4; exact rq_bag_find_81_3 v0 v1 v2 v3 v4
    · cases h)
noncomputable abbrev ll_bag_find_81_3 {R : Type} : List (Nat × Nat × Nat × Smy R) := (81, 0, 3, gL sp_bag_find_81_3 rd_bag_find_81_3 br) :: []
theorem lk_bag_find_81_3 {R : Type} : ∀ e ∈ ll_bag_find_81_3 (R := R), LoopTells Tryd.prog X116 M_bag_find L_bag_find e.2.1 (L_bag_find e.1) (bodyOf Tryd.prog e.1 e.2.2.1) e.2.2.2 := List.forall_mem_cons.2 ⟨lo_bag_find_81_3, noneIn⟩
def S_bag_find : FSp := ⟨[.one (.l 58), .one (.l 34)], [], [], [([.one (.i .i64), .one (.b)], [])]⟩
noncomputable def m_bag_find : List U → Rt
  | [.l v0, .l v1] =>
    (let r0 : Rs := (lres rd_bag_find_81_3 [U.l v0, U.l v1, U.i (ln v0), U.i (0 : Int), U.i (ln v0)])
    (.test (ok r0 0)
    (.test (decide (uI (out r0 0) 3 < uI (out r0 0) 2))
    (.test (inR (uI (out r0 0) 3) (ln (uL (out r0 0) 0)))
    (let r1 : Rs := (Rt.res (m_row_Compare [U.l (cL (el (uL (out r0 0) 0) (uI (out r0 0) 3)) 0), U.l (uL (out r0 0) 1)]))
    (.test (ok r1 0)
    (.stop 0 [.i (uI (out r0 0) 3), .b (uI (out r1 0) 0 == (0 : Int))])
    .fail))
    .fail)
    (.stop 0 [.i (uI (out r0 0) 3), .b false]))
    .fail))
  | _ => .fail
set_option maxRecDepth 100000 in
theorem q_bag_find (v0 : List (List PV)) (v1 : List (List PV)) : callK br Tryd.prog X116 M_bag_find L_bag_find (lsT ll_bag_find_81_3) 60 57 (encs [.l v0, .l v1] 0 S_bag_find.ap) (encH [.l v0, .l v1] (ws S_bag_find.ap) S_bag_find.ah) (fun y => fixR Tryd.prog S_bag_find.plan S_bag_find.ah.length y) =
    (m_bag_find [.l v0, .l v1]).go br (fun _ => none) S_bag_find.fin := by
  rw [← callF_eq]; kernel_rfl
theorem e_bag_find : EOK Tryd.prog 57 (gF S_bag_find m_bag_find) :=
  eokTold mixed named x116 (loopsOK_list rids lk_bag_find_81_3) 60 S_bag_find m_bag_find (by
    intro us v h; unfold m_bag_find at h; split at h
    · rename_i v0 v1; exact q_bag_find v0 v1
    · cases h) false
noncomputable abbrev X117 : Ext := extT [(57, (gF S_bag_find m_bag_find))] X116
theorem x117 : XOK Tryd.prog X117 := xok1 x116 e_bag_find

/-- levee/bag.Get -/
def L_bag_Get : FuncId → Nat → Option (List Nat) := liveT []
def M_bag_Get : FuncId → Bool := fun _ => false
def S_bag_Get : FSp := ⟨[.one (.l 58), .one (.l 34)], [], [], [([.one (.i .i64)], [])]⟩
noncomputable def m_bag_Get : List U → Rt
  | [.l v0, .l v1] =>
    (let r0 : Rs := (Rt.res (m_bag_May [U.l v0]))
    (.test (ok r0 0)
    (.test (!uB (out r0 0) 0)
    (.stop 0 [.i ((0 : Int))])
    (let r1 : Rs := (Rt.res (m_bag_find [U.l v0, U.l v1]))
    (.test (ok r1 0)
    (.test (uB (out r1 0) 1)
    (.test (inR (uI (out r1 0) 0) (ln v0))
    (.stop 0 [.i (cI (el v0 (uI (out r1 0) 0)) 1)])
    .fail)
    (.stop 0 [.i ((0 : Int))]))
    .fail)))
    .fail))
  | _ => .fail
set_option maxRecDepth 100000 in
theorem q_bag_Get (v0 : List (List PV)) (v1 : List (List PV)) : callK br Tryd.prog X117 M_bag_Get L_bag_Get (lsT []) 60 31 (encs [.l v0, .l v1] 0 S_bag_Get.ap) (encH [.l v0, .l v1] (ws S_bag_Get.ap) S_bag_Get.ah) (fun y => fixR Tryd.prog S_bag_Get.plan S_bag_Get.ah.length y) =
    (m_bag_Get [.l v0, .l v1]).go br (fun _ => none) S_bag_Get.fin := by
  rw [← callF_eq]; kernel_rfl
theorem e_bag_Get : EOK Tryd.prog 31 (gF S_bag_Get m_bag_Get) :=
  eokTold mixed named x117 (loopsOK_list rids noneIn) 60 S_bag_Get m_bag_Get (by
    intro us v h; unfold m_bag_Get at h; split at h
    · rename_i v0 v1; exact q_bag_Get v0 v1
    · cases h) false
noncomputable abbrev X118 : Ext := extT [(31, (gF S_bag_Get m_bag_Get))] X117
theorem x118 : XOK Tryd.prog X118 := xok1 x117 e_bag_Get

/-- levee/bag.Plus -/
def L_bag_Plus : FuncId → Nat → Option (List Nat) := liveT [(28, 3, [117000003, 7, 8, 9]), (28, 1000003, [3]), (28, 2000003, [2]), (79, 2, [0, 1, 7, 8]), (79, 1000002, []), (79, 2000002, [4])]
def M_bag_Plus : FuncId → Bool := fun _ => false
noncomputable def rd_bag_Plus_28_3 : List U → Rt
  | [.l v0, .i v1, .i v2, .l v3] =>
    (.test (decide (v2 < v1))
    (.test (inR v2 (ln v0))
    (let r0 : Rs := (Rt.res (m_bag_May [U.l (cL (el v0 v2) 0)]))
    (.test (ok r0 0)
    (.test (!uB (out r0 0) 0)
    (.stop 0 [])
    (.test (decide ((List.length v3 + List.length (cL (el v0 v2) 0)) * 32 ≤ 140737488355328))
    (.next [.l v0, .i v1, .i (w64 (v2 + (1 : Int))), .l (v3 ++ cL (el v0 v2) 0)])
    .fail))
    .fail))
    .fail)
    (.stop 1 [.l v3]))
  | _ => .fail
def sp_bag_Plus_28_3 : LSp := ⟨25, ⟨[(3, .one (.all 0)), (7, .one (.l 52)), (8, .one (.i .i64)), (9, .one (.i .i64))], [.arr 58 true]⟩, [(.ret, ⟨[(2, .one (.nils))], []⟩), (.exit 0, ⟨[(3, .one (.all 0))], [.arr 58 true]⟩)]⟩
set_option maxRecDepth 100000 in
theorem rq_bag_Plus_28_3 (v0 : List (List PV)) (v1 : Int) (v2 : Int) (v3 : List (List PV)) : runK br Tryd.prog (callK br Tryd.prog X118 M_bag_Plus L_bag_Plus (lsT []) 40) M_bag_Plus (lsT [] 28 0) 40 0 (L_bag_Plus 28) (bodyOf Tryd.prog 28 3) (sp_bag_Plus_28_3.s.ts sp_bag_Plus_28_3.n [.l v0, .i v1, .i v2, .l v3]) (sp_bag_Plus_28_3.s.h [.l v0, .i v1, .i v2, .l v3]) (idc Tryd.prog 0 (L_bag_Plus 28) 3) =
    (rd_bag_Plus_28_3 [.l v0, .i v1, .i v2, .l v3]).go br (fun us' => some (.normal, sp_bag_Plus_28_3.s.ts sp_bag_Plus_28_3.n us', sp_bag_Plus_28_3.s.h us')) sp_bag_Plus_28_3.fin := by
  rw [← callF_eq, ← runF_eq]; kernel_rfl
theorem lo_bag_Plus_28_3 {R : Type} : LoopTells Tryd.prog X118 M_bag_Plus L_bag_Plus 0 (L_bag_Plus 28) (bodyOf Tryd.prog 28 3) (gL (R := R) sp_bag_Plus_28_3 rd_bag_Plus_28_3 br) :=
  loopTold (callK_ev (loopsOK_list rids noneIn) 40) (lsokIn (loopsOK_list rids noneIn) 28 0 3) (by kernel_rfl) sp_bag_Plus_28_3 rd_bag_Plus_28_3 rfl (by kernel_rfl) (by
    intro us v h; unfold rd_bag_Plus_28_3 at h; split at h
    · rename_i v0 v1 v2 v3; exact rq_bag_Plus_28_3 v0 v1 v2 v3
    · cases h)
noncomputable abbrev ll_bag_Plus_28_3 {R : Type} : List (Nat × Nat × Nat × Smy R) := (28, 0, 3, gL sp_bag_Plus_28_3 rd_bag_Plus_28_3 br) :: []
theorem lk_bag_Plus_28_3 {R : Type} : ∀ e ∈ ll_bag_Plus_28_3 (R := R), LoopTells Tryd.prog X118 M_bag_Plus L_bag_Plus e.2.1 (L_bag_Plus e.1) (bodyOf Tryd.prog e.1 e.2.2.1) e.2.2.2 := List.forall_mem_cons.2 ⟨lo_bag_Plus_28_3, noneIn⟩
noncomputable def rd_bag_Plus_79_2 : List U → Rt
  | [.l v0, .i v1, .i v2] =>
    (.test (decide (v2 < v1))
    (.test (inR v2 (ln v0))
    (let r0 : Rs := (Rt.res (m_bag_fits [U.i (cI (el v0 v2) 1)]))
    (.test (ok r0 0)
    (.test (!uB (out r0 0) 0)
    (.stop 0 [.i v2])
    (.next [.l v0, .i v1, .i (w64 (v2 + (1 : Int)))]))
    .fail))
    .fail)
    (.stop 1 []))
  | _ => .fail
def sp_bag_Plus_79_2 : LSp := ⟨19, ⟨[(0, .one (.l 58)), (1, .fn 54 []), (7, .one (.i .i64)), (8, .one (.i .i64))], []⟩, [(.ret, ⟨[(4, .one (.i .i64))], []⟩), (.exit 0, ⟨[], []⟩)]⟩
set_option maxRecDepth 100000 in
theorem rq_bag_Plus_79_2 (v0 : List (List PV)) (v1 : Int) (v2 : Int) : runK br Tryd.prog (callK br Tryd.prog X118 M_bag_Plus L_bag_Plus (lsT ll_bag_Plus_28_3) 40) M_bag_Plus (lsT ll_bag_Plus_28_3 79 0) 40 0 (L_bag_Plus 79) (bodyOf Tryd.prog 79 2) (sp_bag_Plus_79_2.s.ts sp_bag_Plus_79_2.n [.l v0, .i v1, .i v2]) (sp_bag_Plus_79_2.s.h [.l v0, .i v1, .i v2]) (idc Tryd.prog 0 (L_bag_Plus 79) 2) =
    (rd_bag_Plus_79_2 [.l v0, .i v1, .i v2]).go br (fun us' => some (.normal, sp_bag_Plus_79_2.s.ts sp_bag_Plus_79_2.n us', sp_bag_Plus_79_2.s.h us')) sp_bag_Plus_79_2.fin := by
  rw [← callF_eq, ← runF_eq]; kernel_rfl
theorem lo_bag_Plus_79_2 {R : Type} : LoopTells Tryd.prog X118 M_bag_Plus L_bag_Plus 0 (L_bag_Plus 79) (bodyOf Tryd.prog 79 2) (gL (R := R) sp_bag_Plus_79_2 rd_bag_Plus_79_2 br) :=
  loopTold (callK_ev (loopsOK_list rids lk_bag_Plus_28_3) 40) (lsokIn (loopsOK_list rids lk_bag_Plus_28_3) 79 0 2) (by kernel_rfl) sp_bag_Plus_79_2 rd_bag_Plus_79_2 rfl (by kernel_rfl) (by
    intro us v h; unfold rd_bag_Plus_79_2 at h; split at h
    · rename_i v0 v1 v2; exact rq_bag_Plus_79_2 v0 v1 v2
    · cases h)
noncomputable abbrev ll_bag_Plus_79_2 {R : Type} : List (Nat × Nat × Nat × Smy R) := (79, 0, 2, gL sp_bag_Plus_79_2 rd_bag_Plus_79_2 br) :: ll_bag_Plus_28_3
theorem lk_bag_Plus_79_2 {R : Type} : ∀ e ∈ ll_bag_Plus_79_2 (R := R), LoopTells Tryd.prog X118 M_bag_Plus L_bag_Plus e.2.1 (L_bag_Plus e.1) (bodyOf Tryd.prog e.1 e.2.2.1) e.2.2.2 := List.forall_mem_cons.2 ⟨lo_bag_Plus_79_2, lk_bag_Plus_28_3⟩
def S_bag_Plus : FSp := ⟨[.one (.l 52)], [], [117000000], [([.one (.all 0)], [.arr 58 true])]⟩
noncomputable def m_bag_Plus : List U → Rt
  | [.l v0] =>
    (let r0 : Rs := (lres rd_bag_Plus_28_3 [U.l v0, U.i (ln v0), U.i (0 : Int), U.l []])
    (.test (ok r0 0)
    (.stop 0 [.l []])
    (.test (ok r0 1)
    (let r1 : Rs := (Rt.res (m_bag_Sum [U.l (uL (out r0 1) 0)]))
    (.test (ok r1 0)
    (let r2 : Rs := (lres rd_bag_Plus_79_2 [U.l (uL (out r1 0) 0), U.i (ln (uL (out r1 0) 0)), U.i (0 : Int)])
    (.test (ok r2 0)
    (.test (decide (uI (out r2 0) 0 ≥ (0 : Int)))
    (.stop 0 [.l []])
    (.stop 0 [.l (uL (out r1 0) 0)]))
    (.test (ok r2 1)
    (.stop 0 [.l (uL (out r1 0) 0)])
    .fail)))
    .fail))
    .fail)))
  | _ => .fail
set_option maxRecDepth 100000 in
theorem q_bag_Plus (v0 : List (List PV)) : callK br Tryd.prog X118 M_bag_Plus L_bag_Plus (lsT ll_bag_Plus_79_2) 60 28 (encs [.l v0] 0 S_bag_Plus.ap) (encH [.l v0] (ws S_bag_Plus.ap) S_bag_Plus.ah) (fun y => fixR Tryd.prog S_bag_Plus.plan S_bag_Plus.ah.length y) =
    (m_bag_Plus [.l v0]).go br (fun _ => none) S_bag_Plus.fin := by
  rw [← callF_eq]; kernel_rfl
theorem e_bag_Plus : EOK Tryd.prog 28 (gF S_bag_Plus m_bag_Plus) :=
  eokTold mixed named x118 (loopsOK_list rids lk_bag_Plus_79_2) 60 S_bag_Plus m_bag_Plus (by
    intro us v h; unfold m_bag_Plus at h; split at h
    · rename_i v0; exact q_bag_Plus v0
    · cases h) false
noncomputable abbrev X119 : Ext := extT [(28, (gF S_bag_Plus m_bag_Plus))] X118
theorem x119 : XOK Tryd.prog X119 := xok1 x118 e_bag_Plus

/-- levee/leveelaw05.fixed -/
def L_L05_fixed : FuncId → Nat → Option (List Nat) := liveT []
def M_L05_fixed : FuncId → Bool := fun _ => false
def S_L05_fixed : FSp := ⟨[], [], [], [([.one (.b)], [])]⟩
noncomputable def m_L05_fixed : List U → Rt
  | [] =>
    (let r0 : Rs := (Rt.res (m_bag_Of [U.l [[PV.lst 34 [[pI (2 : Int), pI (2 : Int), pS { data := #[] }]]], [PV.lst 34 [[pI (2 : Int), pI (1 : Int), pS { data := #[] }]]], [PV.lst 34 [[pI (2 : Int), pI (2 : Int), pS { data := #[] }]]]]]))
    (.test (ok r0 0)
    (let r1 : Rs := (Rt.res (m_bag_Rows [U.l (uL (out r0 0) 0)]))
    (.test (ok r1 0)
    (let r2 : Rs := (Rt.res (m_bag_Neg [U.l (uL (out r0 0) 0)]))
    (.test (ok r2 0)
    (let r3 : Rs := (Rt.res (m_bag_Rows [U.l (uL (out r2 0) 0)]))
    (.test (ok r3 0)
    (let r4 : Rs := (Rt.res (m_bag_Text [U.l (uL (out r0 0) 0)]))
    (.test (ok r4 0)
    (.test (ByteArray.toList (uS (out r4 0) 0) == [Subtype.val ⟨ByteArray.get! { data := #[(40 : UInt8), (49 : UInt8), (41 : UInt8), (32 : UInt8), (40 : UInt8), (50 : UInt8), (41 : UInt8), (42 : UInt8), (50 : UInt8)] } 0, And.left (Iff.mp List.forall_mem_cons (And.right (Iff.mp List.forall_mem_cons (And.right (Iff.mp List.forall_mem_cons (And.right (Iff.mp List.forall_mem_cons (And.right (Iff.mp List.forall_mem_cons (And.right (Iff.mp List.forall_mem_cons (And.right (Iff.mp List.forall_mem_cons (And.right (Iff.mp List.forall_mem_cons (And.right (Iff.mp List.forall_mem_cons (List.attach._proof_1 [ByteArray.get! { data := #[(40 : UInt8), (49 : UInt8), (41 : UInt8), (32 : UInt8), (40 : UInt8), (50 : UInt8), (41 : UInt8), (42 : UInt8), (50 : UInt8)] } (0 + 1 + 1 + 1 + 1 + 1 + 1 + 1 + 1), ByteArray.get! { data := #[(40 : UInt8), (49 : UInt8), (41 : UInt8), (32 : UInt8), (40 : UInt8), (50 : UInt8), (41 : UInt8), (42 : UInt8), (50 : UInt8)] } (0 + 1 + 1 + 1 + 1 + 1 + 1 + 1), ByteArray.get! { data := #[(40 : UInt8), (49 : UInt8), (41 : UInt8), (32 : UInt8), (40 : UInt8), (50 : UInt8), (41 : UInt8), (42 : UInt8), (50 : UInt8)] } (0 + 1 + 1 + 1 + 1 + 1 + 1), ByteArray.get! { data := #[(40 : UInt8), (49 : UInt8), (41 : UInt8), (32 : UInt8), (40 : UInt8), (50 : UInt8), (41 : UInt8), (42 : UInt8), (50 : UInt8)] } (0 + 1 + 1 + 1 + 1 + 1), ByteArray.get! { data := #[(40 : UInt8), (49 : UInt8), (41 : UInt8), (32 : UInt8), (40 : UInt8), (50 : UInt8), (41 : UInt8), (42 : UInt8), (50 : UInt8)] } (0 + 1 + 1 + 1 + 1), ByteArray.get! { data := #[(40 : UInt8), (49 : UInt8), (41 : UInt8), (32 : UInt8), (40 : UInt8), (50 : UInt8), (41 : UInt8), (42 : UInt8), (50 : UInt8)] } (0 + 1 + 1 + 1), ByteArray.get! { data := #[(40 : UInt8), (49 : UInt8), (41 : UInt8), (32 : UInt8), (40 : UInt8), (50 : UInt8), (41 : UInt8), (42 : UInt8), (50 : UInt8)] } (0 + 1 + 1), ByteArray.get! { data := #[(40 : UInt8), (49 : UInt8), (41 : UInt8), (32 : UInt8), (40 : UInt8), (50 : UInt8), (41 : UInt8), (42 : UInt8), (50 : UInt8)] } (0 + 1), ByteArray.get! { data := #[(40 : UInt8), (49 : UInt8), (41 : UInt8), (32 : UInt8), (40 : UInt8), (50 : UInt8), (41 : UInt8), (42 : UInt8), (50 : UInt8)] } 0]))))))))))))))))))⟩, Subtype.val ⟨ByteArray.get! { data := #[(40 : UInt8), (49 : UInt8), (41 : UInt8), (32 : UInt8), (40 : UInt8), (50 : UInt8), (41 : UInt8), (42 : UInt8), (50 : UInt8)] } 1, And.left (Iff.mp List.forall_mem_cons (And.right (Iff.mp List.forall_mem_cons (And.right (Iff.mp List.forall_mem_cons (And.right (Iff.mp List.forall_mem_cons (And.right (Iff.mp List.forall_mem_cons (And.right (Iff.mp List.forall_mem_cons (And.right (Iff.mp List.forall_mem_cons (And.right (Iff.mp List.forall_mem_cons (List.attach._proof_1 [ByteArray.get! { data := #[(40 : UInt8), (49 : UInt8), (41 : UInt8), (32 : UInt8), (40 : UInt8), (50 : UInt8), (41 : UInt8), (42 : UInt8), (50 : UInt8)] } (0 + 1 + 1 + 1 + 1 + 1 + 1 + 1 + 1), ByteArray.get! { data := #[(40 : UInt8), (49 : UInt8), (41 : UInt8), (32 : UInt8), (40 : UInt8), (50 : UInt8), (41 : UInt8), (42 : UInt8), (50 : UInt8)] } (0 + 1 + 1 + 1 + 1 + 1 + 1 + 1), ByteArray.get! { data := #[(40 : UInt8), (49 : UInt8), (41 : UInt8), (32 : UInt8), (40 : UInt8), (50 : UInt8), (41 : UInt8), (42 : UInt8), (50 : UInt8)] } (0 + 1 + 1 + 1 + 1 + 1 + 1), ByteArray.get! { data := #[(40 : UInt8), (49 : UInt8), (41 : UInt8), (32 : UInt8), (40 : UInt8), (50 : UInt8), (41 : UInt8), (42 : UInt8), (50 : UInt8)] } (0 + 1 + 1 + 1 + 1 + 1), ByteArray.get! { data := #[(40 : UInt8), (49 : UInt8), (41 : UInt8), (32 : UInt8), (40 : UInt8), (50 : UInt8), (41 : UInt8), (42 : UInt8), (50 : UInt8)] } (0 + 1 + 1 + 1 + 1), ByteArray.get! { data := #[(40 : UInt8), (49 : UInt8), (41 : UInt8), (32 : UInt8), (40 : UInt8), (50 : UInt8), (41 : UInt8), (42 : UInt8), (50 : UInt8)] } (0 + 1 + 1 + 1), ByteArray.get! { data := #[(40 : UInt8), (49 : UInt8), (41 : UInt8), (32 : UInt8), (40 : UInt8), (50 : UInt8), (41 : UInt8), (42 : UInt8), (50 : UInt8)] } (0 + 1 + 1), ByteArray.get! { data := #[(40 : UInt8), (49 : UInt8), (41 : UInt8), (32 : UInt8), (40 : UInt8), (50 : UInt8), (41 : UInt8), (42 : UInt8), (50 : UInt8)] } (0 + 1), ByteArray.get! { data := #[(40 : UInt8), (49 : UInt8), (41 : UInt8), (32 : UInt8), (40 : UInt8), (50 : UInt8), (41 : UInt8), (42 : UInt8), (50 : UInt8)] } 0]))))))))))))))))⟩, Subtype.val ⟨ByteArray.get! { data := #[(40 : UInt8), (49 : UInt8), (41 : UInt8), (32 : UInt8), (40 : UInt8), (50 : UInt8), (41 : UInt8), (42 : UInt8), (50 : UInt8)] } 2, And.left (Iff.mp List.forall_mem_cons (And.right (Iff.mp List.forall_mem_cons (And.right (Iff.mp List.forall_mem_cons (And.right (Iff.mp List.forall_mem_cons (And.right (Iff.mp List.forall_mem_cons (And.right (Iff.mp List.forall_mem_cons (And.right (Iff.mp List.forall_mem_cons (List.attach._proof_1 [ByteArray.get! { data := #[(40 : UInt8), (49 : UInt8), (41 : UInt8), (32 : UInt8), (40 : UInt8), (50 : UInt8), (41 : UInt8), (42 : UInt8), (50 : UInt8)] } (0 + 1 + 1 + 1 + 1 + 1 + 1 + 1 + 1), ByteArray.get! { data := #[(40 : UInt8), (49 : UInt8), (41 : UInt8), (32 : UInt8), (40 : UInt8), (50 : UInt8), (41 : UInt8), (42 : UInt8), (50 : UInt8)] } (0 + 1 + 1 + 1 + 1 + 1 + 1 + 1), ByteArray.get! { data := #[(40 : UInt8), (49 : UInt8), (41 : UInt8), (32 : UInt8), (40 : UInt8), (50 : UInt8), (41 : UInt8), (42 : UInt8), (50 : UInt8)] } (0 + 1 + 1 + 1 + 1 + 1 + 1), ByteArray.get! { data := #[(40 : UInt8), (49 : UInt8), (41 : UInt8), (32 : UInt8), (40 : UInt8), (50 : UInt8), (41 : UInt8), (42 : UInt8), (50 : UInt8)] } (0 + 1 + 1 + 1 + 1 + 1), ByteArray.get! { data := #[(40 : UInt8), (49 : UInt8), (41 : UInt8), (32 : UInt8), (40 : UInt8), (50 : UInt8), (41 : UInt8), (42 : UInt8), (50 : UInt8)] } (0 + 1 + 1 + 1 + 1), ByteArray.get! { data := #[(40 : UInt8), (49 : UInt8), (41 : UInt8), (32 : UInt8), (40 : UInt8), (50 : UInt8), (41 : UInt8), (42 : UInt8), (50 : UInt8)] } (0 + 1 + 1 + 1), ByteArray.get! { data := #[(40 : UInt8), (49 : UInt8), (41 : UInt8), (32 : UInt8), (40 : UInt8), (50 : UInt8), (41 : UInt8), (42 : UInt8), (50 : UInt8)] } (0 + 1 + 1), ByteArray.get! { data := #[(40 : UInt8), (49 : UInt8), (41 : UInt8), (32 : UInt8), (40 : UInt8), (50 : UInt8), (41 : UInt8), (42 : UInt8), (50 : UInt8)] } (0 + 1), ByteArray.get! { data := #[(40 : UInt8), (49 : UInt8), (41 : UInt8), (32 : UInt8), (40 : UInt8), (50 : UInt8), (41 : UInt8), (42 : UInt8), (50 : UInt8)] } 0]))))))))))))))⟩, Subtype.val ⟨ByteArray.get! { data := #[(40 : UInt8), (49 : UInt8), (41 : UInt8), (32 : UInt8), (40 : UInt8), (50 : UInt8), (41 : UInt8), (42 : UInt8), (50 : UInt8)] } 3, And.left (Iff.mp List.forall_mem_cons (And.right (Iff.mp List.forall_mem_cons (And.right (Iff.mp List.forall_mem_cons (And.right (Iff.mp List.forall_mem_cons (And.right (Iff.mp List.forall_mem_cons (And.right (Iff.mp List.forall_mem_cons (List.attach._proof_1 [ByteArray.get! { data := #[(40 : UInt8), (49 : UInt8), (41 : UInt8), (32 : UInt8), (40 : UInt8), (50 : UInt8), (41 : UInt8), (42 : UInt8), (50 : UInt8)] } (0 + 1 + 1 + 1 + 1 + 1 + 1 + 1 + 1), ByteArray.get! { data := #[(40 : UInt8), (49 : UInt8), (41 : UInt8), (32 : UInt8), (40 : UInt8), (50 : UInt8), (41 : UInt8), (42 : UInt8), (50 : UInt8)] } (0 + 1 + 1 + 1 + 1 + 1 + 1 + 1), ByteArray.get! { data := #[(40 : UInt8), (49 : UInt8), (41 : UInt8), (32 : UInt8), (40 : UInt8), (50 : UInt8), (41 : UInt8), (42 : UInt8), (50 : UInt8)] } (0 + 1 + 1 + 1 + 1 + 1 + 1), ByteArray.get! { data := #[(40 : UInt8), (49 : UInt8), (41 : UInt8), (32 : UInt8), (40 : UInt8), (50 : UInt8), (41 : UInt8), (42 : UInt8), (50 : UInt8)] } (0 + 1 + 1 + 1 + 1 + 1), ByteArray.get! { data := #[(40 : UInt8), (49 : UInt8), (41 : UInt8), (32 : UInt8), (40 : UInt8), (50 : UInt8), (41 : UInt8), (42 : UInt8), (50 : UInt8)] } (0 + 1 + 1 + 1 + 1), ByteArray.get! { data := #[(40 : UInt8), (49 : UInt8), (41 : UInt8), (32 : UInt8), (40 : UInt8), (50 : UInt8), (41 : UInt8), (42 : UInt8), (50 : UInt8)] } (0 + 1 + 1 + 1), ByteArray.get! { data := #[(40 : UInt8), (49 : UInt8), (41 : UInt8), (32 : UInt8), (40 : UInt8), (50 : UInt8), (41 : UInt8), (42 : UInt8), (50 : UInt8)] } (0 + 1 + 1), ByteArray.get! { data := #[(40 : UInt8), (49 : UInt8), (41 : UInt8), (32 : UInt8), (40 : UInt8), (50 : UInt8), (41 : UInt8), (42 : UInt8), (50 : UInt8)] } (0 + 1), ByteArray.get! { data := #[(40 : UInt8), (49 : UInt8), (41 : UInt8), (32 : UInt8), (40 : UInt8), (50 : UInt8), (41 : UInt8), (42 : UInt8), (50 : UInt8)] } 0]))))))))))))⟩, Subtype.val ⟨ByteArray.get! { data := #[(40 : UInt8), (49 : UInt8), (41 : UInt8), (32 : UInt8), (40 : UInt8), (50 : UInt8), (41 : UInt8), (42 : UInt8), (50 : UInt8)] } 4, And.left (Iff.mp List.forall_mem_cons (And.right (Iff.mp List.forall_mem_cons (And.right (Iff.mp List.forall_mem_cons (And.right (Iff.mp List.forall_mem_cons (And.right (Iff.mp List.forall_mem_cons (List.attach._proof_1 [ByteArray.get! { data := #[(40 : UInt8), (49 : UInt8), (41 : UInt8), (32 : UInt8), (40 : UInt8), (50 : UInt8), (41 : UInt8), (42 : UInt8), (50 : UInt8)] } (0 + 1 + 1 + 1 + 1 + 1 + 1 + 1 + 1), ByteArray.get! { data := #[(40 : UInt8), (49 : UInt8), (41 : UInt8), (32 : UInt8), (40 : UInt8), (50 : UInt8), (41 : UInt8), (42 : UInt8), (50 : UInt8)] } (0 + 1 + 1 + 1 + 1 + 1 + 1 + 1), ByteArray.get! { data := #[(40 : UInt8), (49 : UInt8), (41 : UInt8), (32 : UInt8), (40 : UInt8), (50 : UInt8), (41 : UInt8), (42 : UInt8), (50 : UInt8)] } (0 + 1 + 1 + 1 + 1 + 1 + 1), ByteArray.get! { data := #[(40 : UInt8), (49 : UInt8), (41 : UInt8), (32 : UInt8), (40 : UInt8), (50 : UInt8), (41 : UInt8), (42 : UInt8), (50 : UInt8)] } (0 + 1 + 1 + 1 + 1 + 1), ByteArray.get! { data := #[(40 : UInt8), (49 : UInt8), (41 : UInt8), (32 : UInt8), (40 : UInt8), (50 : UInt8), (41 : UInt8), (42 : UInt8), (50 : UInt8)] } (0 + 1 + 1 + 1 + 1), ByteArray.get! { data := #[(40 : UInt8), (49 : UInt8), (41 : UInt8), (32 : UInt8), (40 : UInt8), (50 : UInt8), (41 : UInt8), (42 : UInt8), (50 : UInt8)] } (0 + 1 + 1 + 1), ByteArray.get! { data := #[(40 : UInt8), (49 : UInt8), (41 : UInt8), (32 : UInt8), (40 : UInt8), (50 : UInt8), (41 : UInt8), (42 : UInt8), (50 : UInt8)] } (0 + 1 + 1), ByteArray.get! { data := #[(40 : UInt8), (49 : UInt8), (41 : UInt8), (32 : UInt8), (40 : UInt8), (50 : UInt8), (41 : UInt8), (42 : UInt8), (50 : UInt8)] } (0 + 1), ByteArray.get! { data := #[(40 : UInt8), (49 : UInt8), (41 : UInt8), (32 : UInt8), (40 : UInt8), (50 : UInt8), (41 : UInt8), (42 : UInt8), (50 : UInt8)] } 0]))))))))))⟩, Subtype.val ⟨ByteArray.get! { data := #[(40 : UInt8), (49 : UInt8), (41 : UInt8), (32 : UInt8), (40 : UInt8), (50 : UInt8), (41 : UInt8), (42 : UInt8), (50 : UInt8)] } 5, And.left (Iff.mp List.forall_mem_cons (And.right (Iff.mp List.forall_mem_cons (And.right (Iff.mp List.forall_mem_cons (And.right (Iff.mp List.forall_mem_cons (List.attach._proof_1 [ByteArray.get! { data := #[(40 : UInt8), (49 : UInt8), (41 : UInt8), (32 : UInt8), (40 : UInt8), (50 : UInt8), (41 : UInt8), (42 : UInt8), (50 : UInt8)] } (0 + 1 + 1 + 1 + 1 + 1 + 1 + 1 + 1), ByteArray.get! { data := #[(40 : UInt8), (49 : UInt8), (41 : UInt8), (32 : UInt8), (40 : UInt8), (50 : UInt8), (41 : UInt8), (42 : UInt8), (50 : UInt8)] } (0 + 1 + 1 + 1 + 1 + 1 + 1 + 1), ByteArray.get! { data := #[(40 : UInt8), (49 : UInt8), (41 : UInt8), (32 : UInt8), (40 : UInt8), (50 : UInt8), (41 : UInt8), (42 : UInt8), (50 : UInt8)] } (0 + 1 + 1 + 1 + 1 + 1 + 1), ByteArray.get! { data := #[(40 : UInt8), (49 : UInt8), (41 : UInt8), (32 : UInt8), (40 : UInt8), (50 : UInt8), (41 : UInt8), (42 : UInt8), (50 : UInt8)] } (0 + 1 + 1 + 1 + 1 + 1), ByteArray.get! { data := #[(40 : UInt8), (49 : UInt8), (41 : UInt8), (32 : UInt8), (40 : UInt8), (50 : UInt8), (41 : UInt8), (42 : UInt8), (50 : UInt8)] } (0 + 1 + 1 + 1 + 1), ByteArray.get! { data := #[(40 : UInt8), (49 : UInt8), (41 : UInt8), (32 : UInt8), (40 : UInt8), (50 : UInt8), (41 : UInt8), (42 : UInt8), (50 : UInt8)] } (0 + 1 + 1 + 1), ByteArray.get! { data := #[(40 : UInt8), (49 : UInt8), (41 : UInt8), (32 : UInt8), (40 : UInt8), (50 : UInt8), (41 : UInt8), (42 : UInt8), (50 : UInt8)] } (0 + 1 + 1), ByteArray.get! { data := #[(40 : UInt8), (49 : UInt8), (41 : UInt8), (32 : UInt8), (40 : UInt8), (50 : UInt8), (41 : UInt8), (42 : UInt8), (50 : UInt8)] } (0 + 1), ByteArray.get! { data := #[(40 : UInt8), (49 : UInt8), (41 : UInt8), (32 : UInt8), (40 : UInt8), (50 : UInt8), (41 : UInt8), (42 : UInt8), (50 : UInt8)] } 0]))))))))⟩, Subtype.val ⟨ByteArray.get! { data := #[(40 : UInt8), (49 : UInt8), (41 : UInt8), (32 : UInt8), (40 : UInt8), (50 : UInt8), (41 : UInt8), (42 : UInt8), (50 : UInt8)] } 6, And.left (Iff.mp List.forall_mem_cons (And.right (Iff.mp List.forall_mem_cons (And.right (Iff.mp List.forall_mem_cons (List.attach._proof_1 [ByteArray.get! { data := #[(40 : UInt8), (49 : UInt8), (41 : UInt8), (32 : UInt8), (40 : UInt8), (50 : UInt8), (41 : UInt8), (42 : UInt8), (50 : UInt8)] } (0 + 1 + 1 + 1 + 1 + 1 + 1 + 1 + 1), ByteArray.get! { data := #[(40 : UInt8), (49 : UInt8), (41 : UInt8), (32 : UInt8), (40 : UInt8), (50 : UInt8), (41 : UInt8), (42 : UInt8), (50 : UInt8)] } (0 + 1 + 1 + 1 + 1 + 1 + 1 + 1), ByteArray.get! { data := #[(40 : UInt8), (49 : UInt8), (41 : UInt8), (32 : UInt8), (40 : UInt8), (50 : UInt8), (41 : UInt8), (42 : UInt8), (50 : UInt8)] } (0 + 1 + 1 + 1 + 1 + 1 + 1), ByteArray.get! { data := #[(40 : UInt8), (49 : UInt8), (41 : UInt8), (32 : UInt8), (40 : UInt8), (50 : UInt8), (41 : UInt8), (42 : UInt8), (50 : UInt8)] } (0 + 1 + 1 + 1 + 1 + 1), ByteArray.get! { data := #[(40 : UInt8), (49 : UInt8), (41 : UInt8), (32 : UInt8), (40 : UInt8), (50 : UInt8), (41 : UInt8), (42 : UInt8), (50 : UInt8)] } (0 + 1 + 1 + 1 + 1), ByteArray.get! { data := #[(40 : UInt8), (49 : UInt8), (41 : UInt8), (32 : UInt8), (40 : UInt8), (50 : UInt8), (41 : UInt8), (42 : UInt8), (50 : UInt8)] } (0 + 1 + 1 + 1), ByteArray.get! { data := #[(40 : UInt8), (49 : UInt8), (41 : UInt8), (32 : UInt8), (40 : UInt8), (50 : UInt8), (41 : UInt8), (42 : UInt8), (50 : UInt8)] } (0 + 1 + 1), ByteArray.get! { data := #[(40 : UInt8), (49 : UInt8), (41 : UInt8), (32 : UInt8), (40 : UInt8), (50 : UInt8), (41 : UInt8), (42 : UInt8), (50 : UInt8)] } (0 + 1), ByteArray.get! { data := #[(40 : UInt8), (49 : UInt8), (41 : UInt8), (32 : UInt8), (40 : UInt8), (50 : UInt8), (41 : UInt8), (42 : UInt8), (50 : UInt8)] } 0]))))))⟩, Subtype.val ⟨ByteArray.get! { data := #[(40 : UInt8), (49 : UInt8), (41 : UInt8), (32 : UInt8), (40 : UInt8), (50 : UInt8), (41 : UInt8), (42 : UInt8), (50 : UInt8)] } 7, And.left (Iff.mp List.forall_mem_cons (And.right (Iff.mp List.forall_mem_cons (List.attach._proof_1 [ByteArray.get! { data := #[(40 : UInt8), (49 : UInt8), (41 : UInt8), (32 : UInt8), (40 : UInt8), (50 : UInt8), (41 : UInt8), (42 : UInt8), (50 : UInt8)] } (0 + 1 + 1 + 1 + 1 + 1 + 1 + 1 + 1), ByteArray.get! { data := #[(40 : UInt8), (49 : UInt8), (41 : UInt8), (32 : UInt8), (40 : UInt8), (50 : UInt8), (41 : UInt8), (42 : UInt8), (50 : UInt8)] } (0 + 1 + 1 + 1 + 1 + 1 + 1 + 1), ByteArray.get! { data := #[(40 : UInt8), (49 : UInt8), (41 : UInt8), (32 : UInt8), (40 : UInt8), (50 : UInt8), (41 : UInt8), (42 : UInt8), (50 : UInt8)] } (0 + 1 + 1 + 1 + 1 + 1 + 1), ByteArray.get! { data := #[(40 : UInt8), (49 : UInt8), (41 : UInt8), (32 : UInt8), (40 : UInt8), (50 : UInt8), (41 : UInt8), (42 : UInt8), (50 : UInt8)] } (0 + 1 + 1 + 1 + 1 + 1), ByteArray.get! { data := #[(40 : UInt8), (49 : UInt8), (41 : UInt8), (32 : UInt8), (40 : UInt8), (50 : UInt8), (41 : UInt8), (42 : UInt8), (50 : UInt8)] } (0 + 1 + 1 + 1 + 1), ByteArray.get! { data := #[(40 : UInt8), (49 : UInt8), (41 : UInt8), (32 : UInt8), (40 : UInt8), (50 : UInt8), (41 : UInt8), (42 : UInt8), (50 : UInt8)] } (0 + 1 + 1 + 1), ByteArray.get! { data := #[(40 : UInt8), (49 : UInt8), (41 : UInt8), (32 : UInt8), (40 : UInt8), (50 : UInt8), (41 : UInt8), (42 : UInt8), (50 : UInt8)] } (0 + 1 + 1), ByteArray.get! { data := #[(40 : UInt8), (49 : UInt8), (41 : UInt8), (32 : UInt8), (40 : UInt8), (50 : UInt8), (41 : UInt8), (42 : UInt8), (50 : UInt8)] } (0 + 1), ByteArray.get! { data := #[(40 : UInt8), (49 : UInt8), (41 : UInt8), (32 : UInt8), (40 : UInt8), (50 : UInt8), (41 : UInt8), (42 : UInt8), (50 : UInt8)] } 0]))))⟩, Subtype.val ⟨ByteArray.get! { data := #[(40 : UInt8), (49 : UInt8), (41 : UInt8), (32 : UInt8), (40 : UInt8), (50 : UInt8), (41 : UInt8), (42 : UInt8), (50 : UInt8)] } 8, And.left (Iff.mp List.forall_mem_cons (List.attach._proof_1 [ByteArray.get! { data := #[(40 : UInt8), (49 : UInt8), (41 : UInt8), (32 : UInt8), (40 : UInt8), (50 : UInt8), (41 : UInt8), (42 : UInt8), (50 : UInt8)] } (0 + 1 + 1 + 1 + 1 + 1 + 1 + 1 + 1), ByteArray.get! { data := #[(40 : UInt8), (49 : UInt8), (41 : UInt8), (32 : UInt8), (40 : UInt8), (50 : UInt8), (41 : UInt8), (42 : UInt8), (50 : UInt8)] } (0 + 1 + 1 + 1 + 1 + 1 + 1 + 1), ByteArray.get! { data := #[(40 : UInt8), (49 : UInt8), (41 : UInt8), (32 : UInt8), (40 : UInt8), (50 : UInt8), (41 : UInt8), (42 : UInt8), (50 : UInt8)] } (0 + 1 + 1 + 1 + 1 + 1 + 1), ByteArray.get! { data := #[(40 : UInt8), (49 : UInt8), (41 : UInt8), (32 : UInt8), (40 : UInt8), (50 : UInt8), (41 : UInt8), (42 : UInt8), (50 : UInt8)] } (0 + 1 + 1 + 1 + 1 + 1), ByteArray.get! { data := #[(40 : UInt8), (49 : UInt8), (41 : UInt8), (32 : UInt8), (40 : UInt8), (50 : UInt8), (41 : UInt8), (42 : UInt8), (50 : UInt8)] } (0 + 1 + 1 + 1 + 1), ByteArray.get! { data := #[(40 : UInt8), (49 : UInt8), (41 : UInt8), (32 : UInt8), (40 : UInt8), (50 : UInt8), (41 : UInt8), (42 : UInt8), (50 : UInt8)] } (0 + 1 + 1 + 1), ByteArray.get! { data := #[(40 : UInt8), (49 : UInt8), (41 : UInt8), (32 : UInt8), (40 : UInt8), (50 : UInt8), (41 : UInt8), (42 : UInt8), (50 : UInt8)] } (0 + 1 + 1), ByteArray.get! { data := #[(40 : UInt8), (49 : UInt8), (41 : UInt8), (32 : UInt8), (40 : UInt8), (50 : UInt8), (41 : UInt8), (42 : UInt8), (50 : UInt8)] } (0 + 1), ByteArray.get! { data := #[(40 : UInt8), (49 : UInt8), (41 : UInt8), (32 : UInt8), (40 : UInt8), (50 : UInt8), (41 : UInt8), (42 : UInt8), (50 : UInt8)] } 0]))⟩])
    (let r5 : Rs := (Rt.res (m_bag_Get [U.l (uL (out r0 0) 0), U.l [[pI (2 : Int), pI (2 : Int), pS { data := #[] }]]]))
    (.test (ok r5 0)
    (.test (uI (out r5 0) 0 == (2 : Int))
    (let r6 : Rs := (Rt.res (m_bag_Neg [U.l (uL (out r0 0) 0)]))
    (.test (ok r6 0)
    (let r7 : Rs := (Rt.res (m_bag_Plus [U.l [[PV.lst 58 (uL (out r0 0) 0)], [PV.lst 58 (uL (out r6 0) 0)]]]))
    (.test (ok r7 0)
    (.test (ln (uL (out r7 0) 0) == (0 : Int))
    (.test (uB (out r1 0) 0)
    (.test (ln (uL (out r1 0) 1) == (3 : Int))
    (.test (!uB (out r3 0) 0)
    (let r8 : Rs := (Rt.res (m_bag_Neg [U.l (uL (out r0 0) 0)]))
    (.test (ok r8 0)
    (let r9 : Rs := (Rt.res (m_bag_Text [U.l (uL (out r8 0) 0)]))
    (.test (ok r9 0)
    (.test (ByteArray.toList (uS (out r9 0) 0) == [Subtype.val ⟨ByteArray.get! { data := #[(40 : UInt8), (49 : UInt8), (41 : UInt8), (42 : UInt8), (45 : UInt8), (49 : UInt8), (32 : UInt8), (40 : UInt8), (50 : UInt8), (41 : UInt8), (42 : UInt8), (45 : UInt8), (50 : UInt8)] } 0, And.left (Iff.mp List.forall_mem_cons (And.right (Iff.mp List.forall_mem_cons (And.right (Iff.mp List.forall_mem_cons (And.right (Iff.mp List.forall_mem_cons (And.right (Iff.mp List.forall_mem_cons (And.right (Iff.mp List.forall_mem_cons (And.right (Iff.mp List.forall_mem_cons (And.right (Iff.mp List.forall_mem_cons (And.right (Iff.mp List.forall_mem_cons (And.right (Iff.mp List.forall_mem_cons (And.right (Iff.mp List.forall_mem_cons (And.right (Iff.mp List.forall_mem_cons (And.right (Iff.mp List.forall_mem_cons (List.attach._proof_1 [ByteArray.get! { data := #[(40 : UInt8), (49 : UInt8), (41 : UInt8), (42 : UInt8), (45 : UInt8), (49 : UInt8), (32 : UInt8), (40 : UInt8), (50 : UInt8), (41 : UInt8), (42 : UInt8), (45 : UInt8), (50 : UInt8)] } (0 + 1 + 1 + 1 + 1 + 1 + 1 + 1 + 1 + 1 + 1 + 1 + 1), ByteArray.get! { data := #[(40 : UInt8), (49 : UInt8), (41 : UInt8), (42 : UInt8), (45 : UInt8), (49 : UInt8), (32 : UInt8), (40 : UInt8), (50 : UInt8), (41 : UInt8), (42 : UInt8), (45 : UInt8), (50 : UInt8)] } (0 + 1 + 1 + 1 + 1 + 1 + 1 + 1 + 1 + 1 + 1 + 1), ByteArray.get! { data := #[(40 : UInt8), (49 : UInt8), (41 : UInt8), (42 : UInt8), (45 : UInt8), (49 : UInt8), (32 : UInt8), (40 : UInt8), (50 : UInt8), (41 : UInt8), (42 : UInt8), (45 : UInt8), (50 : UInt8)] } (0 + 1 + 1 + 1 + 1 + 1 + 1 + 1 + 1 + 1 + 1), ByteArray.get! { data := #[(40 : UInt8), (49 : UInt8), (41 : UInt8), (42 : UInt8), (45 : UInt8), (49 : UInt8), (32 : UInt8), (40 : UInt8), (50 : UInt8), (41 : UInt8), (42 : UInt8), (45 : UInt8), (50 : UInt8)] } (0 + 1 + 1 + 1 + 1 + 1 + 1 + 1 + 1 + 1), ByteArray.get! { data := #[(40 : UInt8), (49 : UInt8), (41 : UInt8), (42 : UInt8), (45 : UInt8), (49 : UInt8), (32 : UInt8), (40 : UInt8), (50 : UInt8), (41 : UInt8), (42 : UInt8), (45 : UInt8), (50 : UInt8)] } (0 + 1 + 1 + 1 + 1 + 1 + 1 + 1 + 1), ByteArray.get! { data := #[(40 : UInt8), (49 : UInt8), (41 : UInt8), (42 : UInt8), (45 : UInt8), (49 : UInt8), (32 : UInt8), (40 : UInt8), (50 : UInt8), (41 : UInt8), (42 : UInt8), (45 : UInt8), (50 : UInt8)] } (0 + 1 + 1 + 1 + 1 + 1 + 1 + 1), ByteArray.get! { data := #[(40 : UInt8), (49 : UInt8), (41 : UInt8), (42 : UInt8), (45 : UInt8), (49 : UInt8), (32 : UInt8), (40 : UInt8), (50 : UInt8), (41 : UInt8), (42 : UInt8), (45 : UInt8), (50 : UInt8)] } (0 + 1 + 1 + 1 + 1 + 1 + 1), ByteArray.get! { data := #[(40 : UInt8), (49 : UInt8), (41 : UInt8), (42 : UInt8), (45 : UInt8), (49 : UInt8), (32 : UInt8), (40 : UInt8), (50 : UInt8), (41 : UInt8), (42 : UInt8), (45 : UInt8), (50 : UInt8)] } (0 + 1 + 1 + 1 + 1 + 1), ByteArray.get! { data := #[(40 : UInt8), (49 : UInt8), (41 : UInt8), (42 : UInt8), (45 : UInt8), (49 : UInt8), (32 : UInt8), (40 : UInt8), (50 : UInt8), (41 : UInt8), (42 : UInt8), (45 : UInt8), (50 : UInt8)] } (0 + 1 + 1 + 1 + 1), ByteArray.get! { data := #[(40 : UInt8), (49 : UInt8), (41 : UInt8), (42 : UInt8), (45 : UInt8), (49 : UInt8), (32 : UInt8), (40 : UInt8), (50 : UInt8), (41 : UInt8), (42 : UInt8), (45 : UInt8), (50 : UInt8)] } (0 + 1 + 1 + 1), ByteArray.get! { data := #[(40 : UInt8), (49 : UInt8), (41 : UInt8), (42 : UInt8), (45 : UInt8), (49 : UInt8), (32 : UInt8), (40 : UInt8), (50 : UInt8), (41 : UInt8), (42 : UInt8), (45 : UInt8), (50 : UInt8)] } (0 + 1 + 1), ByteArray.get! { data := #[(40 : UInt8), (49 : UInt8), (41 : UInt8), (42 : UInt8), (45 : UInt8), (49 : UInt8), (32 : UInt8), (40 : UInt8), (50 : UInt8), (41 : UInt8), (42 : UInt8), (45 : UInt8), (50 : UInt8)] } (0 + 1), ByteArray.get! { data := #[(40 : UInt8), (49 : UInt8), (41 : UInt8), (42 : UInt8), (45 : UInt8), (49 : UInt8), (32 : UInt8), (40 : UInt8), (50 : UInt8), (41 : UInt8), (42 : UInt8), (45 : UInt8), (50 : UInt8)] } 0]))))))))))))))))))))))))))⟩, Subtype.val ⟨ByteArray.get! { data := #[(40 : UInt8), (49 : UInt8), (41 : UInt8), (42 : UInt8), (45 : UInt8), (49 : UInt8), (32 : UInt8), (40 : UInt8), (50 : UInt8), (41 : UInt8), (42 : UInt8), (45 : UInt8), (50 : UInt8)] } 1, And.left (Iff.mp List.forall_mem_cons (And.right (Iff.mp List.forall_mem_cons (And.right (Iff.mp List.forall_mem_cons (And.right (Iff.mp List.forall_mem_cons (And.right (Iff.mp List.forall_mem_cons (And.right (Iff.mp List.forall_mem_cons (And.right (Iff.mp List.forall_mem_cons (And.right (Iff.mp List.forall_mem_cons (And.right (Iff.mp List.forall_mem_cons (And.right (Iff.mp List.forall_mem_cons (And.right (Iff.mp List.forall_mem_cons (And.right (Iff.mp List.forall_mem_cons (List.attach._proof_1 [ByteArray.get! { data := #[(40 : UInt8), (49 : UInt8), (41 : UInt8), (42 : UInt8), (45 : UInt8), (49 : UInt8), (32 : UInt8), (40 : UInt8), (50 : UInt8), (41 : UInt8), (42 : UInt8), (45 : UInt8), (50 : UInt8)] } (0 + 1 + 1 + 1 + 1 + 1 + 1 + 1 + 1 + 1 + 1 + 1 + 1), ByteArray.get! { data := #[(40 : UInt8), (49 : UInt8), (41 : UInt8), (42 : UInt8), (45 : UInt8), (49 : UInt8), (32 : UInt8), (40 : UInt8), (50 : UInt8), (41 : UInt8), (42 : UInt8), (45 : UInt8), (50 : UInt8)] } (0 + 1 + 1 + 1 + 1 + 1 + 1 + 1 + 1 + 1 + 1 + 1), ByteArray.get! { data := #[(40 : UInt8), (49 : UInt8), (41 : UInt8), (42 : UInt8), (45 : UInt8), (49 : UInt8), (32 : UInt8), (40 : UInt8), (50 : UInt8), (41 : UInt8), (42 : UInt8), (45 : UInt8), (50 : UInt8)] } (0 + 1 + 1 + 1 + 1 + 1 + 1 + 1 + 1 + 1 + 1), ByteArray.get! { data := #[(40 : UInt8), (49 : UInt8), (41 : UInt8), (42 : UInt8), (45 : UInt8), (49 : UInt8), (32 : UInt8), (40 : UInt8), (50 : UInt8), (41 : UInt8), (42 : UInt8), (45 : UInt8), (50 : UInt8)] } (0 + 1 + 1 + 1 + 1 + 1 + 1 + 1 + 1 + 1), ByteArray.get! { data := #[(40 : UInt8), (49 : UInt8), (41 : UInt8), (42 : UInt8), (45 : UInt8), (49 : UInt8), (32 : UInt8), (40 : UInt8), (50 : UInt8), (41 : UInt8), (42 : UInt8), (45 : UInt8), (50 : UInt8)] } (0 + 1 + 1 + 1 + 1 + 1 + 1 + 1 + 1), ByteArray.get! { data := #[(40 : UInt8), (49 : UInt8), (41 : UInt8), (42 : UInt8), (45 : UInt8), (49 : UInt8), (32 : UInt8), (40 : UInt8), (50 : UInt8), (41 : UInt8), (42 : UInt8), (45 : UInt8), (50 : UInt8)] } (0 + 1 + 1 + 1 + 1 + 1 + 1 + 1), ByteArray.get! { data := #[(40 : UInt8), (49 : UInt8), (41 : UInt8), (42 : UInt8), (45 : UInt8), (49 : UInt8), (32 : UInt8), (40 : UInt8), (50 : UInt8), (41 : UInt8), (42 : UInt8), (45 : UInt8), (50 : UInt8)] } (0 + 1 + 1 + 1 + 1 + 1 + 1), ByteArray.get! { data := #[(40 : UInt8), (49 : UInt8), (41 : UInt8), (42 : UInt8), (45 : UInt8), (49 : UInt8), (32 : UInt8), (40 : UInt8), (50 : UInt8), (41 : UInt8), (42 : UInt8), (45 : UInt8), (50 : UInt8)] } (0 + 1 + 1 + 1 + 1 + 1), ByteArray.get! { data := #[(40 : UInt8), (49 : UInt8), (41 : UInt8), (42 : UInt8), (45 : UInt8), (49 : UInt8), (32 : UInt8), (40 : UInt8), (50 : UInt8), (41 : UInt8), (42 : UInt8), (45 : UInt8), (50 : UInt8)] } (0 + 1 + 1 + 1 + 1), ByteArray.get! { data := #[(40 : UInt8), (49 : UInt8), (41 : UInt8), (42 : UInt8), (45 : UInt8), (49 : UInt8), (32 : UInt8), (40 : UInt8), (50 : UInt8), (41 : UInt8), (42 : UInt8), (45 : UInt8), (50 : UInt8)] } (0 + 1 + 1 + 1), ByteArray.get! { data := #[(40 : UInt8), (49 : UInt8), (41 : UInt8), (42 : UInt8), (45 : UInt8), (49 : UInt8), (32 : UInt8), (40 : UInt8), (50 : UInt8), (41 : UInt8), (42 : UInt8), (45 : UInt8), (50 : UInt8)] } (0 + 1 + 1), ByteArray.get! { data := #[(40 : UInt8), (49 : UInt8), (41 : UInt8), (42 : UInt8), (45 : UInt8), (49 : UInt8), (32 : UInt8), (40 : UInt8), (50 : UInt8), (41 : UInt8), (42 : UInt8), (45 : UInt8), (50 : UInt8)] } (0 + 1), ByteArray.get! { data := #[(40 : UInt8), (49 : UInt8), (41 : UInt8), (42 : UInt8), (45 : UInt8), (49 : UInt8), (32 : UInt8), (40 : UInt8), (50 : UInt8), (41 : UInt8), (42 : UInt8), (45 : UInt8), (50 : UInt8)] } 0]))))))))))))))))))))))))⟩, Subtype.val ⟨ByteArray.get! { data := #[(40 : UInt8), (49 : UInt8), (41 : UInt8), (42 : UInt8), (45 : UInt8), (49 : UInt8), (32 : UInt8), (40 : UInt8), (50 : UInt8), (41 : UInt8), (42 : UInt8), (45 : UInt8), (50 : UInt8)] } 2, And.left (Iff.mp List.forall_mem_cons (And.right (Iff.mp List.forall_mem_cons (And.right (Iff.mp List.forall_mem_cons (And.right (Iff.mp List.forall_mem_cons (And.right (Iff.mp List.forall_mem_cons (And.right (Iff.mp List.forall_mem_cons (And.right (Iff.mp List.forall_mem_cons (And.right (Iff.mp List.forall_mem_cons (And.right (Iff.mp List.forall_mem_cons (And.right (Iff.mp List.forall_mem_cons (And.right (Iff.mp List.forall_mem_cons (List.attach._proof_1 [ByteArray.get! { data := #[(40 : UInt8), (49 : UInt8), (41 : UInt8), (42 : UInt8), (45 : UInt8), (49 : UInt8), (32 : UInt8), (40 : UInt8), (50 : UInt8), (41 : UInt8), (42 : UInt8), (45 : UInt8), (50 : UInt8)] } (0 + 1 + 1 + 1 + 1 + 1 + 1 + 1 + 1 + 1 + 1 + 1 + 1), ByteArray.get! { data := #[(40 : UInt8), (49 : UInt8), (41 : UInt8), (42 : UInt8), (45 : UInt8), (49 : UInt8), (32 : UInt8), (40 : UInt8), (50 : UInt8), (41 : UInt8), (42 : UInt8), (45 : UInt8), (50 : UInt8)] } (0 + 1 + 1 + 1 + 1 + 1 + 1 + 1 + 1 + 1 + 1 + 1), ByteArray.get! { data := #[(40 : UInt8), (49 : UInt8), (41 : UInt8), (42 : UInt8), (45 : UInt8), (49 : UInt8), (32 : UInt8), (40 : UInt8), (50 : UInt8), (41 : UInt8), (42 : UInt8), (45 : UInt8), (50 : UInt8)] } (0 + 1 + 1 + 1 + 1 + 1 + 1 + 1 + 1 + 1 + 1), ByteArray.get! { data := #[(40 : UInt8), (49 : UInt8), (41 : UInt8), (42 : UInt8), (45 : UInt8), (49 : UInt8), (32 : UInt8), (40 : UInt8), (50 : UInt8), (41 : UInt8), (42 : UInt8), (45 : UInt8), (50 : UInt8)] } (0 + 1 + 1 + 1 + 1 + 1 + 1 + 1 + 1 + 1), ByteArray.get! { data := #[(40 : UInt8), (49 : UInt8), (41 : UInt8), (42 : UInt8), (45 : UInt8), (49 : UInt8), (32 : UInt8), (40 : UInt8), (50 : UInt8), (41 : UInt8), (42 : UInt8), (45 : UInt8), (50 : UInt8)] } (0 + 1 + 1 + 1 + 1 + 1 + 1 + 1 + 1), ByteArray.get! { data := #[(40 : UInt8), (49 : UInt8), (41 : UInt8), (42 : UInt8), (45 : UInt8), (49 : UInt8), (32 : UInt8), (40 : UInt8), (50 : UInt8), (41 : UInt8), (42 : UInt8), (45 : UInt8), (50 : UInt8)] } (0 + 1 + 1 + 1 + 1 + 1 + 1 + 1), ByteArray.get! { data := #[(40 : UInt8), (49 : UInt8), (41 : UInt8), (42 : UInt8), (45 : UInt8), (49 : UInt8), (32 : UInt8), (40 : UInt8), (50 : UInt8), (41 : UInt8), (42 : UInt8), (45 : UInt8), (50 : UInt8)] } (0 + 1 + 1 + 1 + 1 + 1 + 1), ByteArray.get! { data := #[(40 : UInt8), (49 : UInt8), (41 : UInt8), (42 : UInt8), (45 : UInt8), (49 : UInt8), (32 : UInt8), (40 : UInt8), (50 : UInt8), (41 : UInt8), (42 : UInt8), (45 : UInt8), (50 : UInt8)] } (0 + 1 + 1 + 1 + 1 + 1), ByteArray.get! { data := #[(40 : UInt8), (49 : UInt8), (41 : UInt8), (42 : UInt8), (45 : UInt8), (49 : UInt8), (32 : UInt8), (40 : UInt8), (50 : UInt8), (41 : UInt8), (42 : UInt8), (45 : UInt8), (50 : UInt8)] } (0 + 1 + 1 + 1 + 1), ByteArray.get! { data := #[(40 : UInt8), (49 : UInt8), (41 : UInt8), (42 : UInt8), (45 : UInt8), (49 : UInt8), (32 : UInt8), (40 : UInt8), (50 : UInt8), (41 : UInt8), (42 : UInt8), (45 : UInt8), (50 : UInt8)] } (0 + 1 + 1 + 1), ByteArray.get! { data := #[(40 : UInt8), (49 : UInt8), (41 : UInt8), (42 : UInt8), (45 : UInt8), (49 : UInt8), (32 : UInt8), (40 : UInt8), (50 : UInt8), (41 : UInt8), (42 : UInt8), (45 : UInt8), (50 : UInt8)] } (0 + 1 + 1), ByteArray.get! { data := #[(40 : UInt8), (49 : UInt8), (41 : UInt8), (42 : UInt8), (45 : UInt8), (49 : UInt8), (32 : UInt8), (40 : UInt8), (50 : UInt8), (41 : UInt8), (42 : UInt8), (45 : UInt8), (50 : UInt8)] } (0 + 1), ByteArray.get! { data := #[(40 : UInt8), (49 : UInt8), (41 : UInt8), (42 : UInt8), (45 : UInt8), (49 : UInt8), (32 : UInt8), (40 : UInt8), (50 : UInt8), (41 : UInt8), (42 : UInt8), (45 : UInt8), (50 : UInt8)] } 0]))))))))))))))))))))))⟩, Subtype.val ⟨ByteArray.get! { data := #[(40 : UInt8), (49 : UInt8), (41 : UInt8), (42 : UInt8), (45 : UInt8), (49 : UInt8), (32 : UInt8), (40 : UInt8), (50 : UInt8), (41 : UInt8), (42 : UInt8), (45 : UInt8), (50 : UInt8)] } 3, And.left (Iff.mp List.forall_mem_cons (And.right (Iff.mp List.forall_mem_cons (And.right (Iff.mp List.forall_mem_cons (And.right (Iff.mp List.forall_mem_cons (And.right (Iff.mp List.forall_mem_cons (And.right (Iff.mp List.forall_mem_cons (And.right (Iff.mp List.forall_mem_cons (And.right (Iff.mp List.forall_mem_cons (And.right (Iff.mp List.forall_mem_cons (And.right (Iff.mp List.forall_mem_cons (List.attach._proof_1 [ByteArray.get! { data := #[(40 : UInt8), (49 : UInt8), (41 : UInt8), (42 : UInt8), (45 : UInt8), (49 : UInt8), (32 : UInt8), (40 : UInt8), (50 : UInt8), (41 : UInt8), (42 : UInt8), (45 : UInt8), (50 : UInt8)] } (0 + 1 + 1 + 1 + 1 + 1 + 1 + 1 + 1 + 1 + 1 + 1 + 1), ByteArray.get! { data := #[(40 : UInt8), (49 : UInt8), (41 : UInt8), (42 : UInt8), (45 : UInt8), (49 : UInt8), (32 : UInt8), (40 : UInt8), (50 : UInt8), (41 : UInt8), (42 : UInt8), (45 : UInt8), (50 : UInt8)] } (0 + 1 + 1 + 1 + 1 + 1 + 1 + 1 + 1 + 1 + 1 + 1), ByteArray.get! { data := #[(40 : UInt8), (49 : UInt8), (41 : UInt8), (42 : UInt8), (45 : UInt8), (49 : UInt8), (32 : UInt8), (40 : UInt8), (50 : UInt8), (41 : UInt8), (42 : UInt8), (45 : UInt8), (50 : UInt8)] } (0 + 1 + 1 + 1 + 1 + 1 + 1 + 1 + 1 + 1 + 1), ByteArray.get! { data := #[(40 : UInt8), (49 : UInt8), (41 : UInt8), (42 : UInt8), (45 : UInt8), (49 : UInt8), (32 : UInt8), (40 : UInt8), (50 : UInt8), (41 : UInt8), (42 : UInt8), (45 : UInt8), (50 : UInt8)] } (0 + 1 + 1 + 1 + 1 + 1 + 1 + 1 + 1 + 1), ByteArray.get! { data := #[(40 : UInt8), (49 : UInt8), (41 : UInt8), (42 : UInt8), (45 : UInt8), (49 : UInt8), (32 : UInt8), (40 : UInt8), (50 : UInt8), (41 : UInt8), (42 : UInt8), (45 : UInt8), (50 : UInt8)] } (0 + 1 + 1 + 1 + 1 + 1 + 1 + 1 + 1), ByteArray.get! { data := #[(40 : UInt8), (49 : UInt8), (41 : UInt8), (42 : UInt8), (45 : UInt8), (49 : UInt8), (32 : UInt8), (40 : UInt8), (50 : UInt8), (41 : UInt8), (42 : UInt8), (45 : UInt8), (50 : UInt8)] } (0 + 1 + 1 + 1 + 1 + 1 + 1 + 1), ByteArray.get! { data := #[(40 : UInt8), (49 : UInt8), (41 : UInt8), (42 : UInt8), (45 : UInt8), (49 : UInt8), (32 : UInt8), (40 : UInt8), (50 : UInt8), (41 : UInt8), (42 : UInt8), (45 : UInt8), (50 : UInt8)] } (0 + 1 + 1 + 1 + 1 + 1 + 1), ByteArray.get! { data := #[(40 : UInt8), (49 : UInt8), (41 : UInt8), (42 : UInt8), (45 : UInt8), (49 : UInt8), (32 : UInt8), (40 : UInt8), (50 : UInt8), (41 : UInt8), (42 : UInt8), (45 : UInt8), (50 : UInt8)] } (0 + 1 + 1 + 1 + 1 + 1), ByteArray.get! { data := #[(40 : UInt8), (49 : UInt8), (41 : UInt8), (42 : UInt8), (45 : UInt8), (49 : UInt8), (32 : UInt8), (40 : UInt8), (50 : UInt8), (41 : UInt8), (42 : UInt8), (45 : UInt8), (50 : UInt8)] } (0 + 1 + 1 + 1 + 1), ByteArray.get! { data := #[(40 : UInt8), (49 : UInt8), (41 : UInt8), (42 : UInt8), (45 : UInt8), (49 : UInt8), (32 : UInt8), (40 : UInt8), (50 : UInt8), (41 : UInt8), (42 : UInt8), (45 : UInt8), (50 : UInt8)] } (0 + 1 + 1 + 1), ByteArray.get! { data := #[(40 : UInt8), (49 : UInt8), (41 : UInt8), (42 : UInt8), (45 : UInt8), (49 : UInt8), (32 : UInt8), (40 : UInt8), (50 : UInt8), (41 : UInt8), (42 : UInt8), (45 : UInt8), (50 : UInt8)] } (0 + 1 + 1), ByteArray.get! { data := #[(40 : UInt8), (49 : UInt8), (41 : UInt8), (42 : UInt8), (45 : UInt8), (49 : UInt8), (32 : UInt8), (40 : UInt8), (50 : UInt8), (41 : UInt8), (42 : UInt8), (45 : UInt8), (50 : UInt8)] } (0 + 1), ByteArray.get! { data := #[(40 : UInt8), (49 : UInt8), (41 : UInt8), (42 : UInt8), (45 : UInt8), (49 : UInt8), (32 : UInt8), (40 : UInt8), (50 : UInt8), (41 : UInt8), (42 : UInt8), (45 : UInt8), (50 : UInt8)] } 0]))))))))))))))))))))⟩, Subtype.val ⟨ByteArray.get! { data := #[(40 : UInt8), (49 : UInt8), (41 : UInt8), (42 : UInt8), (45 : UInt8), (49 : UInt8), (32 : UInt8), (40 : UInt8), (50 : UInt8), (41 : UInt8), (42 : UInt8), (45 : UInt8), (50 : UInt8)] } 4, And.left (Iff.mp List.forall_mem_cons (And.right (Iff.mp List.forall_mem_cons (And.right (Iff.mp List.forall_mem_cons (And.right (Iff.mp List.forall_mem_cons (And.right (Iff.mp List.forall_mem_cons (And.right (Iff.mp List.forall_mem_cons (And.right (Iff.mp List.forall_mem_cons (And.right (Iff.mp List.forall_mem_cons (And.right (Iff.mp List.forall_mem_cons (List.attach._proof_1 [ByteArray.get! { data := #[(40 : UInt8), (49 : UInt8), (41 : UInt8), (42 : UInt8), (45 : UInt8), (49 : UInt8), (32 : UInt8), (40 : UInt8), (50 : UInt8), (41 : UInt8), (42 : UInt8), (45 : UInt8), (50 : UInt8)] } (0 + 1 + 1 + 1 + 1 + 1 + 1 + 1 + 1 + 1 + 1 + 1 + 1), ByteArray.get! { data := #[(40 : UInt8), (49 : UInt8), (41 : UInt8), (42 : UInt8), (45 : UInt8), (49 : UInt8), (32 : UInt8), (40 : UInt8), (50 : UInt8), (41 : UInt8), (42 : UInt8), (45 : UInt8), (50 : UInt8)] } (0 + 1 + 1 + 1 + 1 + 1 + 1 + 1 + 1 + 1 + 1 + 1), ByteArray.get! { data := #[(40 : UInt8), (49 : UInt8), (41 : UInt8), (42 : UInt8), (45 : UInt8), (49 : UInt8), (32 : UInt8), (40 : UInt8), (50 : UInt8), (41 : UInt8), (42 : UInt8), (45 : UInt8), (50 : UInt8)] } (0 + 1 + 1 + 1 + 1 + 1 + 1 + 1 + 1 + 1 + 1), ByteArray.get! { data := #[(40 : UInt8), (49 : UInt8), (41 : UInt8), (42 : UInt8), (45 : UInt8), (49 : UInt8), (32 : UInt8), (40 : UInt8), (50 : UInt8), (41 : UInt8), (42 : UInt8), (45 : UInt8), (50 : UInt8)] } (0 + 1 + 1 + 1 + 1 + 1 + 1 + 1 + 1 + 1), ByteArray.get! { data := #[(40 : UInt8), (49 : UInt8), (41 : UInt8), (42 : UInt8), (45 : UInt8), (49 : UInt8), (32 : UInt8), (40 : UInt8), (50 : UInt8), (41 : UInt8), (42 : UInt8), (45 : UInt8), (50 : UInt8)] } (0 + 1 + 1 + 1 + 1 + 1 + 1 + 1 + 1), ByteArray.get! { data := #[(40 : UInt8), (49 : UInt8), (41 : UInt8), (42 : UInt8), (45 : UInt8), (49 : UInt8), (32 : UInt8), (40 : UInt8), (50 : UInt8), (41 : UInt8), (42 : UInt8), (45 : UInt8), (50 : UInt8)] } (0 + 1 + 1 + 1 + 1 + 1 + 1 + 1), ByteArray.get! { data := #[(40 : UInt8), (49 : UInt8), (41 : UInt8), (42 : UInt8), (45 : UInt8), (49 : UInt8), (32 : UInt8), (40 : UInt8), (50 : UInt8), (41 : UInt8), (42 : UInt8), (45 : UInt8), (50 : UInt8)] } (0 + 1 + 1 + 1 + 1 + 1 + 1), ByteArray.get! { data := #[(40 : UInt8), (49 : UInt8), (41 : UInt8), (42 : UInt8), (45 : UInt8), (49 : UInt8), (32 : UInt8), (40 : UInt8), (50 : UInt8), (41 : UInt8), (42 : UInt8), (45 : UInt8), (50 : UInt8)] } (0 + 1 + 1 + 1 + 1 + 1), ByteArray.get! { data := #[(40 : UInt8), (49 : UInt8), (41 : UInt8), (42 : UInt8), (45 : UInt8), (49 : UInt8), (32 : UInt8), (40 : UInt8), (50 : UInt8), (41 : UInt8), (42 : UInt8), (45 : UInt8), (50 : UInt8)] } (0 + 1 + 1 + 1 + 1), ByteArray.get! { data := #[(40 : UInt8), (49 : UInt8), (41 : UInt8), (42 : UInt8), (45 : UInt8), (49 : UInt8), (32 : UInt8), (40 : UInt8), (50 : UInt8), (41 : UInt8), (42 : UInt8), (45 : UInt8), (50 : UInt8)] } (0 + 1 + 1 + 1), ByteArray.get! { data := #[(40 : UInt8), (49 : UInt8), (41 : UInt8), (42 : UInt8), (45 : UInt8), (49 : UInt8), (32 : UInt8), (40 : UInt8), (50 : UInt8), (41 : UInt8), (42 : UInt8), (45 : UInt8), (50 : UInt8)] } (0 + 1 + 1), ByteArray.get! { data := #[(40 : UInt8), (49 : UInt8), (41 : UInt8), (42 : UInt8), (45 : UInt8), (49 : UInt8), (32 : UInt8), (40 : UInt8), (50 : UInt8), (41 : UInt8), (42 : UInt8), (45 : UInt8), (50 : UInt8)] } (0 + 1), ByteArray.get! { data := #[(40 : UInt8), (49 : UInt8), (41 : UInt8), (42 : UInt8), (45 : UInt8), (49 : UInt8), (32 : UInt8), (40 : UInt8), (50 : UInt8), (41 : UInt8), (42 : UInt8), (45 : UInt8), (50 : UInt8)] } 0]))))))))))))))))))⟩, Subtype.val ⟨ByteArray.get! { data := #[(40 : UInt8), (49 : UInt8), (41 : UInt8), (42 : UInt8), (45 : UInt8), (49 : UInt8), (32 : UInt8), (40 : UInt8), (50 : UInt8), (41 : UInt8), (42 : UInt8), (45 : UInt8), (50 : UInt8)] } 5, And.left (Iff.mp List.forall_mem_cons (And.right (Iff.mp List.forall_mem_cons (And.right (Iff.mp List.forall_mem_cons (And.right (Iff.mp List.forall_mem_cons (And.right (Iff.mp List.forall_mem_cons (And.right (Iff.mp List.forall_mem_cons (And.right (Iff.mp List.forall_mem_cons (And.right (Iff.mp List.forall_mem_cons (List.attach._proof_1 [ByteArray.get! { data := #[(40 : UInt8), (49 : UInt8), (41 : UInt8), (42 : UInt8), (45 : UInt8), (49 : UInt8), (32 : UInt8), (40 : UInt8), (50 : UInt8), (41 : UInt8), (42 : UInt8), (45 : UInt8), (50 : UInt8)] } (0 + 1 + 1 + 1 + 1 + 1 + 1 + 1 + 1 + 1 + 1 + 1 + 1), ByteArray.get! { data := #[(40 : UInt8), (49 : UInt8), (41 : UInt8), (42 : UInt8), (45 : UInt8), (49 : UInt8), (32 : UInt8), (40 : UInt8), (50 : UInt8), (41 : UInt8), (42 : UInt8), (45 : UInt8), (50 : UInt8)] } (0 + 1 + 1 + 1 + 1 + 1 + 1 + 1 + 1 + 1 + 1 + 1), ByteArray.get! { data := #[(40 : UInt8), (49 : UInt8), (41 : UInt8), (42 : UInt8), (45 : UInt8), (49 : UInt8), (32 : UInt8), (40 : UInt8), (50 : UInt8), (41 : UInt8), (42 : UInt8), (45 : UInt8), (50 : UInt8)] } (0 + 1 + 1 + 1 + 1 + 1 + 1 + 1 + 1 + 1 + 1), ByteArray.get! { data := #[(40 : UInt8), (49 : UInt8), (41 : UInt8), (42 : UInt8), (45 : UInt8), (49 : UInt8), (32 : UInt8), (40 : UInt8), (50 : UInt8), (41 : UInt8), (42 : UInt8), (45 : UInt8), (50 : UInt8)] } (0 + 1 + 1 + 1 + 1 + 1 + 1 + 1 + 1 + 1), ByteArray.get! { data := #[(40 : UInt8), (49 : UInt8), (41 : UInt8), (42 : UInt8), (45 : UInt8), (49 : UInt8), (32 : UInt8), (40 : UInt8), (50 : UInt8), (41 : UInt8), (42 : UInt8), (45 : UInt8), (50 : UInt8)] } (0 + 1 + 1 + 1 + 1 + 1 + 1 + 1 + 1), ByteArray.get! { data := #[(40 : UInt8), (49 : UInt8), (41 : UInt8), (42 : UInt8), (45 : UInt8), (49 : UInt8), (32 : UInt8), (40 : UInt8), (50 : UInt8), (41 : UInt8), (42 : UInt8), (45 : UInt8), (50 : UInt8)] } (0 + 1 + 1 + 1 + 1 + 1 + 1 + 1), ByteArray.get! { data := #[(40 : UInt8), (49 : UInt8), (41 : UInt8), (42 : UInt8), (45 : UInt8), (49 : UInt8), (32 : UInt8), (40 : UInt8), (50 : UInt8), (41 : UInt8), (42 : UInt8), (45 : UInt8), (50 : UInt8)] } (0 + 1 + 1 + 1 + 1 + 1 + 1), ByteArray.get! { data := #[(40 : UInt8), (49 : UInt8), (41 : UInt8), (42 : UInt8), (45 : UInt8), (49 : UInt8), (32 : UInt8), (40 : UInt8), (50 : UInt8), (41 : UInt8), (42 : UInt8), (45 : UInt8), (50 : UInt8)] } (0 + 1 + 1 + 1 + 1 + 1), ByteArray.get! { data := #[(40 : UInt8), (49 : UInt8), (41 : UInt8), (42 : UInt8), (45 : UInt8), (49 : UInt8), (32 : UInt8), (40 : UInt8), (50 : UInt8), (41 : UInt8), (42 : UInt8), (45 : UInt8), (50 : UInt8)] } (0 + 1 + 1 + 1 + 1), ByteArray.get! { data := #[(40 : UInt8), (49 : UInt8), (41 : UInt8), (42 : UInt8), (45 : UInt8), (49 : UInt8), (32 : UInt8), (40 : UInt8), (50 : UInt8), (41 : UInt8), (42 : UInt8), (45 : UInt8), (50 : UInt8)] } (0 + 1 + 1 + 1), ByteArray.get! { data := #[(40 : UInt8), (49 : UInt8), (41 : UInt8), (42 : UInt8), (45 : UInt8), (49 : UInt8), (32 : UInt8), (40 : UInt8), (50 : UInt8), (41 : UInt8), (42 : UInt8), (45 : UInt8), (50 : UInt8)] } (0 + 1 + 1), ByteArray.get! { data := #[(40 : UInt8), (49 : UInt8), (41 : UInt8), (42 : UInt8), (45 : UInt8), (49 : UInt8), (32 : UInt8), (40 : UInt8), (50 : UInt8), (41 : UInt8), (42 : UInt8), (45 : UInt8), (50 : UInt8)] } (0 + 1), ByteArray.get! { data := #[(40 : UInt8), (49 : UInt8), (41 : UInt8), (42 : UInt8), (45 : UInt8), (49 : UInt8), (32 : UInt8), (40 : UInt8), (50 : UInt8), (41 : UInt8), (42 : UInt8), (45 : UInt8), (50 : UInt8)] } 0]))))))))))))))))⟩, Subtype.val ⟨ByteArray.get! { data := #[(40 : UInt8), (49 : UInt8), (41 : UInt8), (42 : UInt8), (45 : UInt8), (49 : UInt8), (32 : UInt8), (40 : UInt8), (50 : UInt8), (41 : UInt8), (42 : UInt8), (45 : UInt8), (50 : UInt8)] } 6, And.left (Iff.mp List.forall_mem_cons (And.right (Iff.mp List.forall_mem_cons (And.right (Iff.mp List.forall_mem_cons (And.right (Iff.mp List.forall_mem_cons (And.right (Iff.mp List.forall_mem_cons (And.right (Iff.mp List.forall_mem_cons (And.right (Iff.mp List.forall_mem_cons (List.attach._proof_1 [ByteArray.get! { data := #[(40 : UInt8), (49 : UInt8), (41 : UInt8), (42 : UInt8), (45 : UInt8), (49 : UInt8), (32 : UInt8), (40 : UInt8), (50 : UInt8), (41 : UInt8), (42 : UInt8), (45 : UInt8), (50 : UInt8)] } (0 + 1 + 1 + 1 + 1 + 1 + 1 + 1 + 1 + 1 + 1 + 1 + 1), ByteArray.get! { data := #[(40 : UInt8), (49 : UInt8), (41 : UInt8), (42 : UInt8), (45 : UInt8), (49 : UInt8), (32 : UInt8), (40 : UInt8), (50 : UInt8), (41 : UInt8), (42 : UInt8), (45 : UInt8), (50 : UInt8)] } (0 + 1 + 1 + 1 + 1 + 1 + 1 + 1 + 1 + 1 + 1 + 1), ByteArray.get! { data := #[(40 : UInt8), (49 : UInt8), (41 : UInt8), (42 : UInt8), (45 : UInt8), (49 : UInt8), (32 : UInt8), (40 : UInt8), (50 : UInt8), (41 : UInt8), (42 : UInt8), (45 : UInt8), (50 : UInt8)] } (0 + 1 + 1 + 1 + 1 + 1 + 1 + 1 + 1 + 1 + 1), ByteArray.get! { data := #[(40 : UInt8), (49 : UInt8), (41 : UInt8), (42 : UInt8), (45 : UInt8), (49 : UInt8), (32 : UInt8), (40 : UInt8), (50 : UInt8), (41 : UInt8), (42 : UInt8), (45 : UInt8), (50 : UInt8)] } (0 + 1 + 1 + 1 + 1 + 1 + 1 + 1 + 1 + 1), ByteArray.get! { data := #[(40 : UInt8), (49 : UInt8), (41 : UInt8), (42 : UInt8), (45 : UInt8), (49 : UInt8), (32 : UInt8), (40 : UInt8), (50 : UInt8), (41 : UInt8), (42 : UInt8), (45 : UInt8), (50 : UInt8)] } (0 + 1 + 1 + 1 + 1 + 1 + 1 + 1 + 1), ByteArray.get! { data := #[(40 : UInt8), (49 : UInt8), (41 : UInt8), (42 : UInt8), (45 : UInt8), (49 : UInt8), (32 : UInt8), (40 : UInt8), (50 : UInt8), (41 : UInt8), (42 : UInt8), (45 : UInt8), (50 : UInt8)] } (0 + 1 + 1 + 1 + 1 + 1 + 1 + 1), ByteArray.get! { data := #[(40 : UInt8), (49 : UInt8), (41 : UInt8), (42 : UInt8), (45 : UInt8), (49 : UInt8), (32 : UInt8), (40 : UInt8), (50 : UInt8), (41 : UInt8), (42 : UInt8), (45 : UInt8), (50 : UInt8)] } (0 + 1 + 1 + 1 + 1 + 1 + 1), ByteArray.get! { data := #[(40 : UInt8), (49 : UInt8), (41 : UInt8), (42 : UInt8), (45 : UInt8), (49 : UInt8), (32 : UInt8), (40 : UInt8), (50 : UInt8), (41 : UInt8), (42 : UInt8), (45 : UInt8), (50 : UInt8)] } (0 + 1 + 1 + 1 + 1 + 1), ByteArray.get! { data := #[(40 : UInt8), (49 : UInt8), (41 : UInt8), (42 : UInt8), (45 : UInt8), (49 : UInt8), (32 : UInt8), (40 : UInt8), (50 : UInt8), (41 : UInt8), (42 : UInt8), (45 : UInt8), (50 : UInt8)] } (0 + 1 + 1 + 1 + 1), ByteArray.get! { data := #[(40 : UInt8), (49 : UInt8), (41 : UInt8), (42 : UInt8), (45 : UInt8), (49 : UInt8), (32 : UInt8), (40 : UInt8), (50 : UInt8), (41 : UInt8), (42 : UInt8), (45 : UInt8), (50 : UInt8)] } (0 + 1 + 1 + 1), ByteArray.get! { data := #[(40 : UInt8), (49 : UInt8), (41 : UInt8), (42 : UInt8), (45 : UInt8), (49 : UInt8), (32 : UInt8), (40 : UInt8), (50 : UInt8), (41 : UInt8), (42 : UInt8), (45 : UInt8), (50 : UInt8)] } (0 + 1 + 1), ByteArray.get! { data := #[(40 : UInt8), (49 : UInt8), (41 : UInt8), (42 : UInt8), (45 : UInt8), (49 : UInt8), (32 : UInt8), (40 : UInt8), (50 : UInt8), (41 : UInt8), (42 : UInt8), (45 : UInt8), (50 : UInt8)] } (0 + 1), ByteArray.get! { data := #[(40 : UInt8), (49 : UInt8), (41 : UInt8), (42 : UInt8), (45 : UInt8), (49 : UInt8), (32 : UInt8), (40 : UInt8), (50 : UInt8), (41 : UInt8), (42 : UInt8), (45 : UInt8), (50 : UInt8)] } 0]))))))))))))))⟩, Subtype.val ⟨ByteArray.get! { data := #[(40 : UInt8), (49 : UInt8), (41 : UInt8), (42 : UInt8), (45 : UInt8), (49 : UInt8), (32 : UInt8), (40 : UInt8), (50 : UInt8), (41 : UInt8), (42 : UInt8), (45 : UInt8), (50 : UInt8)] } 7, And.left (Iff.mp List.forall_mem_cons (And.right (Iff.mp List.forall_mem_cons (And.right (Iff.mp List.forall_mem_cons (And.right (Iff.mp List.forall_mem_cons (And.right (Iff.mp List.forall_mem_cons (And.right (Iff.mp List.forall_mem_cons (List.attach._proof_1 [ByteArray.get! { data := #[(40 : UInt8), (49 : UInt8), (41 : UInt8), (42 : UInt8), (45 : UInt8), (49 : UInt8), (32 : UInt8), (40 : UInt8), (50 : UInt8), (41 : UInt8), (42 : UInt8), (45 : UInt8), (50 : UInt8)] } (0 + 1 + 1 + 1 + 1 + 1 + 1 + 1 + 1 + 1 + 1 + 1 + 1), ByteArray.get! { data := #[(40 : UInt8), (49 : UInt8), (41 : UInt8), (42 : UInt8), (45 : UInt8), (49 : UInt8), (32 : UInt8), (40 : UInt8), (50 : UInt8), (41 : UInt8), (42 : UInt8), (45 : UInt8), (50 : UInt8)] } (0 + 1 + 1 + 1 + 1 + 1 + 1 + 1 + 1 + 1 + 1 + 1), ByteArray.get! { data := #[(40 : UInt8), (49 : UInt8), (41 : UInt8), (42 : UInt8), (45 : UInt8), (49 : UInt8), (32 : UInt8), (40 : UInt8), (50 : UInt8), (41 : UInt8), (42 : UInt8), (45 : UInt8), (50 : UInt8)] } (0 + 1 + 1 + 1 + 1 + 1 + 1 + 1 + 1 + 1 + 1), ByteArray.get! { data := #[(40 : UInt8), (49 : UInt8), (41 : UInt8), (42 : UInt8), (45 : UInt8), (49 : UInt8), (32 : UInt8), (40 : UInt8), (50 : UInt8), (41 : UInt8), (42 : UInt8), (45 : UInt8), (50 : UInt8)] } (0 + 1 + 1 + 1 + 1 + 1 + 1 + 1 + 1 + 1), ByteArray.get! { data := #[(40 : UInt8), (49 : UInt8), (41 : UInt8), (42 : UInt8), (45 : UInt8), (49 : UInt8), (32 : UInt8), (40 : UInt8), (50 : UInt8), (41 : UInt8), (42 : UInt8), (45 : UInt8), (50 : UInt8)] } (0 + 1 + 1 + 1 + 1 + 1 + 1 + 1 + 1), ByteArray.get! { data := #[(40 : UInt8), (49 : UInt8), (41 : UInt8), (42 : UInt8), (45 : UInt8), (49 : UInt8), (32 : UInt8), (40 : UInt8), (50 : UInt8), (41 : UInt8), (42 : UInt8), (45 : UInt8), (50 : UInt8)] } (0 + 1 + 1 + 1 + 1 + 1 + 1 + 1), ByteArray.get! { data := #[(40 : UInt8), (49 : UInt8), (41 : UInt8), (42 : UInt8), (45 : UInt8), (49 : UInt8), (32 : UInt8), (40 : UInt8), (50 : UInt8), (41 : UInt8), (42 : UInt8), (45 : UInt8), (50 : UInt8)] } (0 + 1 + 1 + 1 + 1 + 1 + 1), ByteArray.get! { data := #[(40 : UInt8), (49 : UInt8), (41 : UInt8), (42 : UInt8), (45 : UInt8), (49 : UInt8), (32 : UInt8), (40 : UInt8), (50 : UInt8), (41 : UInt8), (42 : UInt8), (45 : UInt8), (50 : UInt8)] } (0 + 1 + 1 + 1 + 1 + 1), ByteArray.get! { data := #[(40 : UInt8), (49 : UInt8), (41 : UInt8), (42 : UInt8), (45 : UInt8), (49 : UInt8), (32 : UInt8), (40 : UInt8), (50 : UInt8), (41 : UInt8), (42 : UInt8), (45 : UInt8), (50 : UInt8)] } (0 + 1 + 1 + 1 + 1), ByteArray.get! { data := #[(40 : UInt8), (49 : UInt8), (41 : UInt8), (42 : UInt8), (45 : UInt8), (49 : UInt8), (32 : UInt8), (40 : UInt8), (50 : UInt8), (41 : UInt8), (42 : UInt8), (45 : UInt8), (50 : UInt8)] } (0 + 1 + 1 + 1), ByteArray.get! { data := #[(40 : UInt8), (49 : UInt8), (41 : UInt8), (42 : UInt8), (45 : UInt8), (49 : UInt8), (32 : UInt8), (40 : UInt8), (50 : UInt8), (41 : UInt8), (42 : UInt8), (45 : UInt8), (50 : UInt8)] } (0 + 1 + 1), ByteArray.get! { data := #[(40 : UInt8), (49 : UInt8), (41 : UInt8), (42 : UInt8), (45 : UInt8), (49 : UInt8), (32 : UInt8), (40 : UInt8), (50 : UInt8), (41 : UInt8), (42 : UInt8), (45 : UInt8), (50 : UInt8)] } (0 + 1), ByteArray.get! { data := #[(40 : UInt8), (49 : UInt8), (41 : UInt8), (42 : UInt8), (45 : UInt8), (49 : UInt8), (32 : UInt8), (40 : UInt8), (50 : UInt8), (41 : UInt8), (42 : UInt8), (45 : UInt8), (50 : UInt8)] } 0]))))))))))))⟩, Subtype.val ⟨ByteArray.get! { data := #[(40 : UInt8), (49 : UInt8), (41 : UInt8), (42 : UInt8), (45 : UInt8), (49 : UInt8), (32 : UInt8), (40 : UInt8), (50 : UInt8), (41 : UInt8), (42 : UInt8), (45 : UInt8), (50 : UInt8)] } 8, And.left (Iff.mp List.forall_mem_cons (And.right (Iff.mp List.forall_mem_cons (And.right (Iff.mp List.forall_mem_cons (And.right (Iff.mp List.forall_mem_cons (And.right (Iff.mp List.forall_mem_cons (List.attach._proof_1 [ByteArray.get! { data := #[(40 : UInt8), (49 : UInt8), (41 : UInt8), (42 : UInt8), (45 : UInt8), (49 : UInt8), (32 : UInt8), (40 : UInt8), (50 : UInt8), (41 : UInt8), (42 : UInt8), (45 : UInt8), (50 : UInt8)] } (0 + 1 + 1 + 1 + 1 + 1 + 1 + 1 + 1 + 1 + 1 + 1 + 1), ByteArray.get! { data := #[(40 : UInt8), (49 : UInt8), (41 : UInt8), (42 : UInt8), (45 : UInt8), (49 : UInt8), (32 : UInt8), (40 : UInt8), (50 : UInt8), (41 : UInt8), (42 : UInt8), (45 : UInt8), (50 : UInt8)] } (0 + 1 + 1 + 1 + 1 + 1 + 1 + 1 + 1 + 1 + 1 + 1), ByteArray.get! { data := #[(40 : UInt8), (49 : UInt8), (41 : UInt8), (42 : UInt8), (45 : UInt8), (49 : UInt8), (32 : UInt8), (40 : UInt8), (50 : UInt8), (41 : UInt8), (42 : UInt8), (45 : UInt8), (50 : UInt8)] } (0 + 1 + 1 + 1 + 1 + 1 + 1 + 1 + 1 + 1 + 1), ByteArray.get! { data := #[(40 : UInt8), (49 : UInt8), (41 : UInt8), (42 : UInt8), (45 : UInt8), (49 : UInt8), (32 : UInt8), (40 : UInt8), (50 : UInt8), (41 : UInt8), (42 : UInt8), (45 : UInt8), (50 : UInt8)] } (0 + 1 + 1 + 1 + 1 + 1 + 1 + 1 + 1 + 1), ByteArray.get! { data := #[(40 : UInt8), (49 : UInt8), (41 : UInt8), (42 : UInt8), (45 : UInt8), (49 : UInt8), (32 : UInt8), (40 : UInt8), (50 : UInt8), (41 : UInt8), (42 : UInt8), (45 : UInt8), (50 : UInt8)] } (0 + 1 + 1 + 1 + 1 + 1 + 1 + 1 + 1), ByteArray.get! { data := #[(40 : UInt8), (49 : UInt8), (41 : UInt8), (42 : UInt8), (45 : UInt8), (49 : UInt8), (32 : UInt8), (40 : UInt8), (50 : UInt8), (41 : UInt8), (42 : UInt8), (45 : UInt8), (50 : UInt8)] } (0 + 1 + 1 + 1 + 1 + 1 + 1 + 1), ByteArray.get! { data := #[(40 : UInt8), (49 : UInt8), (41 : UInt8), (42 : UInt8), (45 : UInt8), (49 : UInt8), (32 : UInt8), (40 : UInt8), (50 : UInt8), (41 : UInt8), (42 : UInt8), (45 : UInt8), (50 : UInt8)] } (0 + 1 + 1 + 1 + 1 + 1 + 1), ByteArray.get! { data := #[(40 : UInt8), (49 : UInt8), (41 : UInt8), (42 : UInt8), (45 : UInt8), (49 : UInt8), (32 : UInt8), (40 : UInt8), (50 : UInt8), (41 : UInt8), (42 : UInt8), (45 : UInt8), (50 : UInt8)] } (0 + 1 + 1 + 1 + 1 + 1), ByteArray.get! { data := #[(40 : UInt8), (49 : UInt8), (41 : UInt8), (42 : UInt8), (45 : UInt8), (49 : UInt8), (32 : UInt8), (40 : UInt8), (50 : UInt8), (41 : UInt8), (42 : UInt8), (45 : UInt8), (50 : UInt8)] } (0 + 1 + 1 + 1 + 1), ByteArray.get! { data := #[(40 : UInt8), (49 : UInt8), (41 : UInt8), (42 : UInt8), (45 : UInt8), (49 : UInt8), (32 : UInt8), (40 : UInt8), (50 : UInt8), (41 : UInt8), (42 : UInt8), (45 : UInt8), (50 : UInt8)] } (0 + 1 + 1 + 1), ByteArray.get! { data := #[(40 : UInt8), (49 : UInt8), (41 : UInt8), (42 : UInt8), (45 : UInt8), (49 : UInt8), (32 : UInt8), (40 : UInt8), (50 : UInt8), (41 : UInt8), (42 : UInt8), (45 : UInt8), (50 : UInt8)] } (0 + 1 + 1), ByteArray.get! { data := #[(40 : UInt8), (49 : UInt8), (41 : UInt8), (42 : UInt8), (45 : UInt8), (49 : UInt8), (32 : UInt8), (40 : UInt8), (50 : UInt8), (41 : UInt8), (42 : UInt8), (45 : UInt8), (50 : UInt8)] } (0 + 1), ByteArray.get! { data := #[(40 : UInt8), (49 : UInt8), (41 : UInt8), (42 : UInt8), (45 : UInt8), (49 : UInt8), (32 : UInt8), (40 : UInt8), (50 : UInt8), (41 : UInt8), (42 : UInt8), (45 : UInt8), (50 : UInt8)] } 0]))))))))))⟩, Subtype.val ⟨ByteArray.get! { data := #[(40 : UInt8), (49 : UInt8), (41 : UInt8), (42 : UInt8), (45 : UInt8), (49 : UInt8), (32 : UInt8), (40 : UInt8), (50 : UInt8), (41 : UInt8), (42 : UInt8), (45 : UInt8), (50 : UInt8)] } 9, And.left (Iff.mp List.forall_mem_cons (And.right (Iff.mp List.forall_mem_cons (And.right (Iff.mp List.forall_mem_cons (And.right (Iff.mp List.forall_mem_cons (List.attach._proof_1 [ByteArray.get! { data := #[(40 : UInt8), (49 : UInt8), (41 : UInt8), (42 : UInt8), (45 : UInt8), (49 : UInt8), (32 : UInt8), (40 : UInt8), (50 : UInt8), (41 : UInt8), (42 : UInt8), (45 : UInt8), (50 : UInt8)] } (0 + 1 + 1 + 1 + 1 + 1 + 1 + 1 + 1 + 1 + 1 + 1 + 1), ByteArray.get! { data := #[(40 : UInt8), (49 : UInt8), (41 : UInt8), (42 : UInt8), (45 : UInt8), (49 : UInt8), (32 : UInt8), (40 : UInt8), (50 : UInt8), (41 : UInt8), (42 : UInt8), (45 : UInt8), (50 : UInt8)] } (0 + 1 + 1 + 1 + 1 + 1 + 1 + 1 + 1 + 1 + 1 + 1), ByteArray.get! { data := #[(40 : UInt8), (49 : UInt8), (41 : UInt8), (42 : UInt8), (45 : UInt8), (49 : UInt8), (32 : UInt8), (40 : UInt8), (50 : UInt8), (41 : UInt8), (42 : UInt8), (45 : UInt8), (50 : UInt8)] } (0 + 1 + 1 + 1 + 1 + 1 + 1 + 1 + 1 + 1 + 1), ByteArray.get! { data := #[(40 : UInt8), (49 : UInt8), (41 : UInt8), (42 : UInt8), (45 : UInt8), (49 : UInt8), (32 : UInt8), (40 : UInt8), (50 : UInt8), (41 : UInt8), (42 : UInt8), (45 : UInt8), (50 : UInt8)] } (0 + 1 + 1 + 1 + 1 + 1 + 1 + 1 + 1 + 1), ByteArray.get! { data := #[(40 : UInt8), (49 : UInt8), (41 : UInt8), (42 : UInt8), (45 : UInt8), (49 : UInt8), (32 : UInt8), (40 : UInt8), (50 : UInt8), (41 : UInt8), (42 : UInt8), (45 : UInt8), (50 : UInt8)] } (0 + 1 + 1 + 1 + 1 + 1 + 1 + 1 + 1), ByteArray.get! { data := #[(40 : UInt8), (49 : UInt8), (41 : UInt8), (42 : UInt8), (45 : UInt8), (49 : UInt8), (32 : UInt8), (40 : UInt8), (50 : UInt8), (41 : UInt8), (42 : UInt8), (45 : UInt8), (50 : UInt8)] } (0 + 1 + 1 + 1 + 1 + 1 + 1 + 1), ByteArray.get! { data := #[(40 : UInt8), (49 : UInt8), (41 : UInt8), (42 : UInt8), (45 : UInt8), (49 : UInt8), (32 : UInt8), (40 : UInt8), (50 : UInt8), (41 : UInt8), (42 : UInt8), (45 : UInt8), (50 : UInt8)] } (0 + 1 + 1 + 1 + 1 + 1 + 1), ByteArray.get! { data := #[(40 : UInt8), (49 : UInt8), (41 : UInt8), (42 : UInt8), (45 : UInt8), (49 : UInt8), (32 : UInt8), (40 : UInt8), (50 : UInt8), (41 : UInt8), (42 : UInt8), (45 : UInt8), (50 : UInt8)] } (0 + 1 + 1 + 1 + 1 + 1), ByteArray.get! { data := #[(40 : UInt8), (49 : UInt8), (41 : UInt8), (42 : UInt8), (45 : UInt8), (49 : UInt8), (32 : UInt8), (40 : UInt8), (50 : UInt8), (41 : UInt8), (42 : UInt8), (45 : UInt8), (50 : UInt8)] } (0 + 1 + 1 + 1 + 1), ByteArray.get! { data := #[(40 : UInt8), (49 : UInt8), (41 : UInt8), (42 : UInt8), (45 : UInt8), (49 : UInt8), (32 : UInt8), (40 : UInt8), (50 : UInt8), (41 : UInt8), (42 : UInt8), (45 : UInt8), (50 : UInt8)] } (0 + 1 + 1 + 1), ByteArray.get! { data := #[(40 : UInt8), (49 : UInt8), (41 : UInt8), (42 : UInt8), (45 : UInt8), (49 : UInt8), (32 : UInt8), (40 : UInt8), (50 : UInt8), (41 : UInt8), (42 : UInt8), (45 : UInt8), (50 : UInt8)] } (0 + 1 + 1), ByteArray.get! { data := #[(40 : UInt8), (49 : UInt8), (41 : UInt8), (42 : UInt8), (45 : UInt8), (49 : UInt8), (32 : UInt8), (40 : UInt8), (50 : UInt8), (41 : UInt8), (42 : UInt8), (45 : UInt8), (50 : UInt8)] } (0 + 1), ByteArray.get! { data := #[(40 : UInt8), (49 : UInt8), (41 : UInt8), (42 : UInt8), (45 : UInt8), (49 : UInt8), (32 : UInt8), (40 : UInt8), (50 : UInt8), (41 : UInt8), (42 : UInt8), (45 : UInt8), (50 : UInt8)] } 0]))))))))⟩, Subtype.val ⟨ByteArray.get! { data := #[(40 : UInt8), (49 : UInt8), (41 : UInt8), (42 : UInt8), (45 : UInt8), (49 : UInt8), (32 : UInt8), (40 : UInt8), (50 : UInt8), (41 : UInt8), (42 : UInt8), (45 : UInt8), (50 : UInt8)] } 10, And.left (Iff.mp List.forall_mem_cons (And.right (Iff.mp List.forall_mem_cons (And.right (Iff.mp List.forall_mem_cons (List.attach._proof_1 [ByteArray.get! { data := #[(40 : UInt8), (49 : UInt8), (41 : UInt8), (42 : UInt8), (45 : UInt8), (49 : UInt8), (32 : UInt8), (40 : UInt8), (50 : UInt8), (41 : UInt8), (42 : UInt8), (45 : UInt8), (50 : UInt8)] } (0 + 1 + 1 + 1 + 1 + 1 + 1 + 1 + 1 + 1 + 1 + 1 + 1), ByteArray.get! { data := #[(40 : UInt8), (49 : UInt8), (41 : UInt8), (42 : UInt8), (45 : UInt8), (49 : UInt8), (32 : UInt8), (40 : UInt8), (50 : UInt8), (41 : UInt8), (42 : UInt8), (45 : UInt8), (50 : UInt8)] } (0 + 1 + 1 + 1 + 1 + 1 + 1 + 1 + 1 + 1 + 1 + 1), ByteArray.get! { data := #[(40 : UInt8), (49 : UInt8), (41 : UInt8), (42 : UInt8), (45 : UInt8), (49 : UInt8), (32 : UInt8), (40 : UInt8), (50 : UInt8), (41 : UInt8), (42 : UInt8), (45 : UInt8), (50 : UInt8)] } (0 + 1 + 1 + 1 + 1 + 1 + 1 + 1 + 1 + 1 + 1), ByteArray.get! { data := #[(40 : UInt8), (49 : UInt8), (41 : UInt8), (42 : UInt8), (45 : UInt8), (49 : UInt8), (32 : UInt8), (40 : UInt8), (50 : UInt8), (41 : UInt8), (42 : UInt8), (45 : UInt8), (50 : UInt8)] } (0 + 1 + 1 + 1 + 1 + 1 + 1 + 1 + 1 + 1), ByteArray.get! { data := #[(40 : UInt8), (49 : UInt8), (41 : UInt8), (42 : UInt8), (45 : UInt8), (49 : UInt8), (32 : UInt8), (40 : UInt8), (50 : UInt8), (41 : UInt8), (42 : UInt8), (45 : UInt8), (50 : UInt8)] } (0 + 1 + 1 + 1 + 1 + 1 + 1 + 1 + 1), ByteArray.get! { data := #[(40 : UInt8), (49 : UInt8), (41 : UInt8), (42 : UInt8), (45 : UInt8), (49 : UInt8), (32 : UInt8), (40 : UInt8), (50 : UInt8), (41 : UInt8), (42 : UInt8), (45 : UInt8), (50 : UInt8)] } (0 + 1 + 1 + 1 + 1 + 1 + 1 + 1), ByteArray.get! { data := #[(40 : UInt8), (49 : UInt8), (41 : UInt8), (42 : UInt8), (45 : UInt8), (49 : UInt8), (32 : UInt8), (40 : UInt8), (50 : UInt8), (41 : UInt8), (42 : UInt8), (45 : UInt8), (50 : UInt8)] } (0 + 1 + 1 + 1 + 1 + 1 + 1), ByteArray.get! { data := #[(40 : UInt8), (49 : UInt8), (41 : UInt8), (42 : UInt8), (45 : UInt8), (49 : UInt8), (32 : UInt8), (40 : UInt8), (50 : UInt8), (41 : UInt8), (42 : UInt8), (45 : UInt8), (50 : UInt8)] } (0 + 1 + 1 + 1 + 1 + 1), ByteArray.get! { data := #[(40 : UInt8), (49 : UInt8), (41 : UInt8), (42 : UInt8), (45 : UInt8), (49 : UInt8), (32 : UInt8), (40 : UInt8), (50 : UInt8), (41 : UInt8), (42 : UInt8), (45 : UInt8), (50 : UInt8)] } (0 + 1 + 1 + 1 + 1), ByteArray.get! { data := #[(40 : UInt8), (49 : UInt8), (41 : UInt8), (42 : UInt8), (45 : UInt8), (49 : UInt8), (32 : UInt8), (40 : UInt8), (50 : UInt8), (41 : UInt8), (42 : UInt8), (45 : UInt8), (50 : UInt8)] } (0 + 1 + 1 + 1), ByteArray.get! { data := #[(40 : UInt8), (49 : UInt8), (41 : UInt8), (42 : UInt8), (45 : UInt8), (49 : UInt8), (32 : UInt8), (40 : UInt8), (50 : UInt8), (41 : UInt8), (42 : UInt8), (45 : UInt8), (50 : UInt8)] } (0 + 1 + 1), ByteArray.get! { data := #[(40 : UInt8), (49 : UInt8), (41 : UInt8), (42 : UInt8), (45 : UInt8), (49 : UInt8), (32 : UInt8), (40 : UInt8), (50 : UInt8), (41 : UInt8), (42 : UInt8), (45 : UInt8), (50 : UInt8)] } (0 + 1), ByteArray.get! { data := #[(40 : UInt8), (49 : UInt8), (41 : UInt8), (42 : UInt8), (45 : UInt8), (49 : UInt8), (32 : UInt8), (40 : UInt8), (50 : UInt8), (41 : UInt8), (42 : UInt8), (45 : UInt8), (50 : UInt8)] } 0]))))))⟩, Subtype.val ⟨ByteArray.get! { data := #[(40 : UInt8), (49 : UInt8), (41 : UInt8), (42 : UInt8), (45 : UInt8), (49 : UInt8), (32 : UInt8), (40 : UInt8), (50 : UInt8), (41 : UInt8), (42 : UInt8), (45 : UInt8), (50 : UInt8)] } 11, And.left (Iff.mp List.forall_mem_cons (And.right (Iff.mp List.forall_mem_cons (List.attach._proof_1 [ByteArray.get! { data := #[(40 : UInt8), (49 : UInt8), (41 : UInt8), (42 : UInt8), (45 : UInt8), (49 : UInt8), (32 : UInt8), (40 : UInt8), (50 : UInt8), (41 : UInt8), (42 : UInt8), (45 : UInt8), (50 : UInt8)] } (0 + 1 + 1 + 1 + 1 + 1 + 1 + 1 + 1 + 1 + 1 + 1 + 1), ByteArray.get! { data := #[(40 : UInt8), (49 : UInt8), (41 : UInt8), (42 : UInt8), (45 : UInt8), (49 : UInt8), (32 : UInt8), (40 : UInt8), (50 : UInt8), (41 : UInt8), (42 : UInt8), (45 : UInt8), (50 : UInt8)] } (0 + 1 + 1 + 1 + 1 + 1 + 1 + 1 + 1 + 1 + 1 + 1), ByteArray.get! { data := #[(40 : UInt8), (49 : UInt8), (41 : UInt8), (42 : UInt8), (45 : UInt8), (49 : UInt8), (32 : UInt8), (40 : UInt8), (50 : UInt8), (41 : UInt8), (42 : UInt8), (45 : UInt8), (50 : UInt8)] } (0 + 1 + 1 + 1 + 1 + 1 + 1 + 1 + 1 + 1 + 1), ByteArray.get! { data := #[(40 : UInt8), (49 : UInt8), (41 : UInt8), (42 : UInt8), (45 : UInt8), (49 : UInt8), (32 : UInt8), (40 : UInt8), (50 : UInt8), (41 : UInt8), (42 : UInt8), (45 : UInt8), (50 : UInt8)] } (0 + 1 + 1 + 1 + 1 + 1 + 1 + 1 + 1 + 1), ByteArray.get! { data := #[(40 : UInt8), (49 : UInt8), (41 : UInt8), (42 : UInt8), (45 : UInt8), (49 : UInt8), (32 : UInt8), (40 : UInt8), (50 : UInt8), (41 : UInt8), (42 : UInt8), (45 : UInt8), (50 : UInt8)] } (0 + 1 + 1 + 1 + 1 + 1 + 1 + 1 + 1), ByteArray.get! { data := #[(40 : UInt8), (49 : UInt8), (41 : UInt8), (42 : UInt8), (45 : UInt8), (49 : UInt8), (32 : UInt8), (40 : UInt8), (50 : UInt8), (41 : UInt8), (42 : UInt8), (45 : UInt8), (50 : UInt8)] } (0 + 1 + 1 + 1 + 1 + 1 + 1 + 1), ByteArray.get! { data := #[(40 : UInt8), (49 : UInt8), (41 : UInt8), (42 : UInt8), (45 : UInt8), (49 : UInt8), (32 : UInt8), (40 : UInt8), (50 : UInt8), (41 : UInt8), (42 : UInt8), (45 : UInt8), (50 : UInt8)] } (0 + 1 + 1 + 1 + 1 + 1 + 1), ByteArray.get! { data := #[(40 : UInt8), (49 : UInt8), (41 : UInt8), (42 : UInt8), (45 : UInt8), (49 : UInt8), (32 : UInt8), (40 : UInt8), (50 : UInt8), (41 : UInt8), (42 : UInt8), (45 : UInt8), (50 : UInt8)] } (0 + 1 + 1 + 1 + 1 + 1), ByteArray.get! { data := #[(40 : UInt8), (49 : UInt8), (41 : UInt8), (42 : UInt8), (45 : UInt8), (49 : UInt8), (32 : UInt8), (40 : UInt8), (50 : UInt8), (41 : UInt8), (42 : UInt8), (45 : UInt8), (50 : UInt8)] } (0 + 1 + 1 + 1 + 1), ByteArray.get! { data := #[(40 : UInt8), (49 : UInt8), (41 : UInt8), (42 : UInt8), (45 : UInt8), (49 : UInt8), (32 : UInt8), (40 : UInt8), (50 : UInt8), (41 : UInt8), (42 : UInt8), (45 : UInt8), (50 : UInt8)] } (0 + 1 + 1 + 1), ByteArray.get! { data := #[(40 : UInt8), (49 : UInt8), (41 : UInt8), (42 : UInt8), (45 : UInt8), (49 : UInt8), (32 : UInt8), (40 : UInt8), (50 : UInt8), (41 : UInt8), (42 : UInt8), (45 : UInt8), (50 : UInt8)] } (0 + 1 + 1), ByteArray.get! { data := #[(40 : UInt8), (49 : UInt8), (41 : UInt8), (42 : UInt8), (45 : UInt8), (49 : UInt8), (32 : UInt8), (40 : UInt8), (50 : UInt8), (41 : UInt8), (42 : UInt8), (45 : UInt8), (50 : UInt8)] } (0 + 1), ByteArray.get! { data := #[(40 : UInt8), (49 : UInt8), (41 : UInt8), (42 : UInt8), (45 : UInt8), (49 : UInt8), (32 : UInt8), (40 : UInt8), (50 : UInt8), (41 : UInt8), (42 : UInt8), (45 : UInt8), (50 : UInt8)] } 0]))))⟩, Subtype.val ⟨ByteArray.get! { data := #[(40 : UInt8), (49 : UInt8), (41 : UInt8), (42 : UInt8), (45 : UInt8), (49 : UInt8), (32 : UInt8), (40 : UInt8), (50 : UInt8), (41 : UInt8), (42 : UInt8), (45 : UInt8), (50 : UInt8)] } 12, And.left (Iff.mp List.forall_mem_cons (List.attach._proof_1 [ByteArray.get! { data := #[(40 : UInt8), (49 : UInt8), (41 : UInt8), (42 : UInt8), (45 : UInt8), (49 : UInt8), (32 : UInt8), (40 : UInt8), (50 : UInt8), (41 : UInt8), (42 : UInt8), (45 : UInt8), (50 : UInt8)] } (0 + 1 + 1 + 1 + 1 + 1 + 1 + 1 + 1 + 1 + 1 + 1 + 1), ByteArray.get! { data := #[(40 : UInt8), (49 : UInt8), (41 : UInt8), (42 : UInt8), (45 : UInt8), (49 : UInt8), (32 : UInt8), (40 : UInt8), (50 : UInt8), (41 : UInt8), (42 : UInt8), (45 : UInt8), (50 : UInt8)] } (0 + 1 + 1 + 1 + 1 + 1 + 1 + 1 + 1 + 1 + 1 + 1), ByteArray.get! { data := #[(40 : UInt8), (49 : UInt8), (41 : UInt8), (42 : UInt8), (45 : UInt8), (49 : UInt8), (32 : UInt8), (40 : UInt8), (50 : UInt8), (41 : UInt8), (42 : UInt8), (45 : UInt8), (50 : UInt8)] } (0 + 1 + 1 + 1 + 1 + 1 + 1 + 1 + 1 + 1 + 1), ByteArray.get! { data := #[(40 : UInt8), (49 : UInt8), (41 : UInt8), (42 : UInt8), (45 : UInt8), (49 : UInt8), (32 : UInt8), (40 : UInt8), (50 : UInt8), (41 : UInt8), (42 : UInt8), (45 : UInt8), (50 : UInt8)] } (0 + 1 + 1 + 1 + 1 + 1 + 1 + 1 + 1 + 1), ByteArray.get! { data := #[(40 : UInt8), (49 : UInt8), (41 : UInt8), (42 : UInt8), (45 : UInt8), (49 : UInt8), (32 : UInt8), (40 : UInt8), (50 : UInt8), (41 : UInt8), (42 : UInt8), (45 : UInt8), (50 : UInt8)] } (0 + 1 + 1 + 1 + 1 + 1 + 1 + 1 + 1), ByteArray.get! { data := #[(40 : UInt8), (49 : UInt8), (41 : UInt8), (42 : UInt8), (45 : UInt8), (49 : UInt8), (32 : UInt8), (40 : UInt8), (50 : UInt8), (41 : UInt8), (42 : UInt8), (45 : UInt8), (50 : UInt8)] } (0 + 1 + 1 + 1 + 1 + 1 + 1 + 1), ByteArray.get! { data := #[(40 : UInt8), (49 : UInt8), (41 : UInt8), (42 : UInt8), (45 : UInt8), (49 : UInt8), (32 : UInt8), (40 : UInt8), (50 : UInt8), (41 : UInt8), (42 : UInt8), (45 : UInt8), (50 : UInt8)] } (0 + 1 + 1 + 1 + 1 + 1 + 1), ByteArray.get! { data := #[(40 : UInt8), (49 : UInt8), (41 : UInt8), (42 : UInt8), (45 : UInt8), (49 : UInt8), (32 : UInt8), (40 : UInt8), (50 : UInt8), (41 : UInt8), (42 : UInt8), (45 : UInt8), (50 : UInt8)] } (0 + 1 + 1 + 1 + 1 + 1), ByteArray.get! { data := #[(40 : UInt8), (49 : UInt8), (41 : UInt8), (42 : UInt8), (45 : UInt8), (49 : UInt8), (32 : UInt8), (40 : UInt8), (50 : UInt8), (41 : UInt8), (42 : UInt8), (45 : UInt8), (50 : UInt8)] } (0 + 1 + 1 + 1 + 1), ByteArray.get! { data := #[(40 : UInt8), (49 : UInt8), (41 : UInt8), (42 : UInt8), (45 : UInt8), (49 : UInt8), (32 : UInt8), (40 : UInt8), (50 : UInt8), (41 : UInt8), (42 : UInt8), (45 : UInt8), (50 : UInt8)] } (0 + 1 + 1 + 1), ByteArray.get! { data := #[(40 : UInt8), (49 : UInt8), (41 : UInt8), (42 : UInt8), (45 : UInt8), (49 : UInt8), (32 : UInt8), (40 : UInt8), (50 : UInt8), (41 : UInt8), (42 : UInt8), (45 : UInt8), (50 : UInt8)] } (0 + 1 + 1), ByteArray.get! { data := #[(40 : UInt8), (49 : UInt8), (41 : UInt8), (42 : UInt8), (45 : UInt8), (49 : UInt8), (32 : UInt8), (40 : UInt8), (50 : UInt8), (41 : UInt8), (42 : UInt8), (45 : UInt8), (50 : UInt8)] } (0 + 1), ByteArray.get! { data := #[(40 : UInt8), (49 : UInt8), (41 : UInt8), (42 : UInt8), (45 : UInt8), (49 : UInt8), (32 : UInt8), (40 : UInt8), (50 : UInt8), (41 : UInt8), (42 : UInt8), (45 : UInt8), (50 : UInt8)] } 0]))⟩])
    (let r10 : Rs := (Rt.res (m_bag_May [U.l (uL (out r0 0) 0)]))
    (.test (ok r10 0)
    (.test (uB (out r10 0) 0)
    (let r11 : Rs := (Rt.res (m_bag_May [U.l [[PV.lst 34 [], pI (0 : Int)]]]))
    (.test (ok r11 0)
    (.test (!uB (out r11 0) 0)
    (let r12 : Rs := (Rt.res (m_bag_Plus [U.l []]))
    (.test (ok r12 0)
    (.stop 0 [.b (ln (uL (out r12 0) 0) == (0 : Int))])
    .fail))
    (.stop 0 [.b false]))
    .fail))
    (.stop 0 [.b false]))
    .fail))
    (.stop 0 [.b false]))
    .fail))
    .fail))
    (.stop 0 [.b false]))
    (.stop 0 [.b false]))
    (.stop 0 [.b false]))
    (.stop 0 [.b false]))
    .fail))
    .fail))
    (.stop 0 [.b false]))
    .fail))
    (.stop 0 [.b false]))
    .fail))
    .fail))
    .fail))
    .fail))
    .fail))
  | _ => .fail
set_option maxRecDepth 100000 in
theorem q_L05_fixed : callK br Tryd.prog X119 M_L05_fixed L_L05_fixed (lsT []) 60 23 (encs [] 0 S_L05_fixed.ap) (encH [] (ws S_L05_fixed.ap) S_L05_fixed.ah) (fun y => fixR Tryd.prog S_L05_fixed.plan S_L05_fixed.ah.length y) =
    (m_L05_fixed []).go br (fun _ => none) S_L05_fixed.fin := by
  rw [← callF_eq]; kernel_rfl
theorem e_L05_fixed : EOK Tryd.prog 23 (gF S_L05_fixed m_L05_fixed) :=
  eokTold mixed named x119 (loopsOK_list rids noneIn) 60 S_L05_fixed m_L05_fixed (by
    intro us v h; unfold m_L05_fixed at h; split at h
    · exact q_L05_fixed
    · cases h) false
noncomputable abbrev X120 : Ext := extT [(23, (gF S_L05_fixed m_L05_fixed))] X119
theorem x120 : XOK Tryd.prog X120 := xok1 x119 e_L05_fixed

/-- levee/leveeref01.May -/
def L_R01_May : FuncId → Nat → Option (List Nat) := liveT []
def M_R01_May : FuncId → Bool := fun _ => false
def S_R01_May : FSp := ⟨[.agg [.i .i64, .i .i64, .s]], [], [], [([.one (.b)], [])]⟩
noncomputable def m_R01_May : List U → Rt
  | [.i v0, .i v1, .s v2] =>
    (.test (v0 == (0 : Int))
    (.test (ByteArray.toList v2 == [])
    (.test (decide (v1 ≥ (0 : Int)))
    (.stop 0 [.b (decide (v1 ≤ v0))])
    (.stop 0 [.b false]))
    (.stop 0 [.b false]))
    (.test (v0 == (1 : Int))
    (.test (ByteArray.toList v2 == [])
    (.test (decide (v1 ≥ (0 : Int)))
    (.stop 0 [.b (decide (v1 ≤ v0))])
    (.stop 0 [.b false]))
    (.stop 0 [.b false]))
    (.test (v0 == (2 : Int))
    (.stop 0 [.b (ByteArray.toList v2 == [])])
    (.test (v0 == (3 : Int))
    (.test (v1 == (0 : Int))
    (.stop 0 [.b (decide ((↑(ByteArray.size v2) : Int) ≤ (1000 : Int)))])
    (.stop 0 [.b false]))
    (.stop 0 [.b false])))))
  | _ => .fail
set_option maxRecDepth 100000 in
theorem q_R01_May (v0 : Int) (v1 : Int) (v2 : ByteArray) : callK br Tryd.prog X120 M_R01_May L_R01_May (lsT []) 60 18 (encs [.i v0, .i v1, .s v2] 0 S_R01_May.ap) (encH [.i v0, .i v1, .s v2] (ws S_R01_May.ap) S_R01_May.ah) (fun y => fixR Tryd.prog S_R01_May.plan S_R01_May.ah.length y) =
    (m_R01_May [.i v0, .i v1, .s v2]).go br (fun _ => none) S_R01_May.fin := by
  rw [← callF_eq]; kernel_rfl
theorem e_R01_May : EOK Tryd.prog 18 (gF S_R01_May m_R01_May) :=
  eokTold mixed named x120 (loopsOK_list rids noneIn) 60 S_R01_May m_R01_May (by
    intro us v h; unfold m_R01_May at h; split at h
    · rename_i v0 v1 v2; exact q_R01_May v0 v1 v2
    · cases h) false
noncomputable abbrev X121 : Ext := extT [(18, (gF S_R01_May m_R01_May))] X120
theorem x121 : XOK Tryd.prog X121 := xok1 x120 e_R01_May

/-- levee/leveeref02.May -/
def L_R02_May : FuncId → Nat → Option (List Nat) := liveT [(58, 2, [0, 3]), (58, 1000002, []), (58, 2000002, [2])]
def M_R02_May : FuncId → Bool := fun _ => false
noncomputable def rd_R02_May_58_2 : List U → Rt
  | [.l v0, .i v1] =>
    (.test (decide (v1 < ln v0))
    (.test (inR v1 (ln v0))
    (let r0 : Rs := (Rt.res (m_R01_May [U.i (cI (el v0 v1) 0), U.i (cI (el v0 v1) 1), U.s (cS (el v0 v1) 2)]))
    (.test (ok r0 0)
    (.test (!uB (out r0 0) 0)
    (.stop 0 [.b false])
    (.next [.l v0, .i (w64 (v1 + (1 : Int)))]))
    .fail))
    .fail)
    (.stop 1 []))
  | _ => .fail
def sp_R02_May_58_2 : LSp := ⟨16, ⟨[(0, .one (.l 34)), (3, .one (.i .i64))], []⟩, [(.ret, ⟨[(2, .one (.b))], []⟩), (.exit 0, ⟨[], []⟩)]⟩
set_option maxRecDepth 100000 in
theorem rq_R02_May_58_2 (v0 : List (List PV)) (v1 : Int) : runK br Tryd.prog (callK br Tryd.prog X121 M_R02_May L_R02_May (lsT []) 40) M_R02_May (lsT [] 58 0) 40 0 (L_R02_May 58) (bodyOf Tryd.prog 58 2) (sp_R02_May_58_2.s.ts sp_R02_May_58_2.n [.l v0, .i v1]) (sp_R02_May_58_2.s.h [.l v0, .i v1]) (idc Tryd.prog 0 (L_R02_May 58) 2) =
    (rd_R02_May_58_2 [.l v0, .i v1]).go br (fun us' => some (.normal, sp_R02_May_58_2.s.ts sp_R02_May_58_2.n us', sp_R02_May_58_2.s.h us')) sp_R02_May_58_2.fin := by
  rw [← callF_eq, ← runF_eq]; kernel_rfl
theorem lo_R02_May_58_2 {R : Type} : LoopTells Tryd.prog X121 M_R02_May L_R02_May 0 (L_R02_May 58) (bodyOf Tryd.prog 58 2) (gL (R := R) sp_R02_May_58_2 rd_R02_May_58_2 br) :=
  loopTold (callK_ev (loopsOK_list rids noneIn) 40) (lsokIn (loopsOK_list rids noneIn) 58 0 2) (by kernel_rfl) sp_R02_May_58_2 rd_R02_May_58_2 rfl (by kernel_rfl) (by
    intro us v h; unfold rd_R02_May_58_2 at h; split at h
    · rename_i v0 v1; exact rq_R02_May_58_2 v0 v1
    · cases h)
noncomputable abbrev ll_R02_May_58_2 {R : Type} : List (Nat × Nat × Nat × Smy R) := (58, 0, 2, gL sp_R02_May_58_2 rd_R02_May_58_2 br) :: []
theorem lk_R02_May_58_2 {R : Type} : ∀ e ∈ ll_R02_May_58_2 (R := R), LoopTells Tryd.prog X121 M_R02_May L_R02_May e.2.1 (L_R02_May e.1) (bodyOf Tryd.prog e.1 e.2.2.1) e.2.2.2 := List.forall_mem_cons.2 ⟨lo_R02_May_58_2, noneIn⟩
def S_R02_May : FSp := ⟨[.one (.l 34)], [], [], [([.one (.b)], [])]⟩
noncomputable def m_R02_May : List U → Rt
  | [.l v0] =>
    (let r0 : Rs := (lres rd_R02_May_58_2 [U.l v0, U.i (0 : Int)])
    (.test (ok r0 0)
    (.stop 0 [.b (uB (out r0 0) 0)])
    (.test (ok r0 1)
    (.stop 0 [.b true])
    .fail)))
  | _ => .fail
set_option maxRecDepth 100000 in
theorem q_R02_May (v0 : List (List PV)) : callK br Tryd.prog X121 M_R02_May L_R02_May (lsT ll_R02_May_58_2) 60 58 (encs [.l v0] 0 S_R02_May.ap) (encH [.l v0] (ws S_R02_May.ap) S_R02_May.ah) (fun y => fixR Tryd.prog S_R02_May.plan S_R02_May.ah.length y) =
    (m_R02_May [.l v0]).go br (fun _ => none) S_R02_May.fin := by
  rw [← callF_eq]; kernel_rfl
theorem e_R02_May : EOK Tryd.prog 58 (gF S_R02_May m_R02_May) :=
  eokTold mixed named x121 (loopsOK_list rids lk_R02_May_58_2) 60 S_R02_May m_R02_May (by
    intro us v h; unfold m_R02_May at h; split at h
    · rename_i v0; exact q_R02_May v0
    · cases h) false
noncomputable abbrev X122 : Ext := extT [(58, (gF S_R02_May m_R02_May))] X121
theorem x122 : XOK Tryd.prog X122 := xok1 x121 e_R02_May

/-- levee/leveeref04.May -/
def L_R04_May : FuncId → Nat → Option (List Nat) := liveT []
def M_R04_May : FuncId → Bool := fun _ => false
def S_R04_May : FSp := ⟨[.one (.l 34)], [], [], [([.one (.b)], [])]⟩
noncomputable def m_R04_May : List U → Rt
  | [.l v0] =>
    (.test (decide (ln v0 ≤ (40 : Int)))
    (let r0 : Rs := (Rt.res (m_R02_May [U.l v0]))
    (.test (ok r0 0)
    (.stop 0 [.b (uB (out r0 0) 0)])
    .fail))
    (.stop 0 [.b false]))
  | _ => .fail
set_option maxRecDepth 100000 in
theorem q_R04_May (v0 : List (List PV)) : callK br Tryd.prog X122 M_R04_May L_R04_May (lsT []) 60 32 (encs [.l v0] 0 S_R04_May.ap) (encH [.l v0] (ws S_R04_May.ap) S_R04_May.ah) (fun y => fixR Tryd.prog S_R04_May.plan S_R04_May.ah.length y) =
    (m_R04_May [.l v0]).go br (fun _ => none) S_R04_May.fin := by
  rw [← callF_eq]; kernel_rfl
theorem e_R04_May : EOK Tryd.prog 32 (gF S_R04_May m_R04_May) :=
  eokTold mixed named x122 (loopsOK_list rids noneIn) 60 S_R04_May m_R04_May (by
    intro us v h; unfold m_R04_May at h; split at h
    · rename_i v0; exact q_R04_May v0
    · cases h) false
noncomputable abbrev X123 : Ext := extT [(32, (gF S_R04_May m_R04_May))] X122
theorem x123 : XOK Tryd.prog X123 := xok1 x122 e_R04_May

/-- levee/leveeref01.Compare -/
def L_R01_Compare : FuncId → Nat → Option (List Nat) := liveT []
def M_R01_Compare : FuncId → Bool := fun _ => false
def S_R01_Compare : FSp := ⟨[.agg [.i .i64, .i .i64, .s], .agg [.i .i64, .i .i64, .s]], [], [], [([.one (.i .i64)], [])]⟩
noncomputable def m_R01_Compare : List U → Rt
  | [.i v0, .i v1, .s v2, .i v3, .i v4, .s v5] =>
    (.test (v0 != v3)
    (.test (decide (v0 < v3))
    (.stop 0 [.i ((-1 : Int))])
    (.stop 0 [.i ((1 : Int))]))
    (.test (v1 != v4)
    (.test (decide (v1 < v4))
    (.stop 0 [.i ((-1 : Int))])
    (.stop 0 [.i ((1 : Int))]))
    (.test (Op.bytesLess (ByteArray.toList v2) (ByteArray.toList v5))
    (.stop 0 [.i ((-1 : Int))])
    (.test (!(Op.bytesLess (ByteArray.toList v2) (ByteArray.toList v5) || ByteArray.toList v2 == ByteArray.toList v5))
    (.stop 0 [.i ((1 : Int))])
    (.stop 0 [.i ((0 : Int))])))))
  | _ => .fail
set_option maxRecDepth 100000 in
theorem q_R01_Compare (v0 : Int) (v1 : Int) (v2 : ByteArray) (v3 : Int) (v4 : Int) (v5 : ByteArray) : callK br Tryd.prog X123 M_R01_Compare L_R01_Compare (lsT []) 60 73 (encs [.i v0, .i v1, .s v2, .i v3, .i v4, .s v5] 0 S_R01_Compare.ap) (encH [.i v0, .i v1, .s v2, .i v3, .i v4, .s v5] (ws S_R01_Compare.ap) S_R01_Compare.ah) (fun y => fixR Tryd.prog S_R01_Compare.plan S_R01_Compare.ah.length y) =
    (m_R01_Compare [.i v0, .i v1, .s v2, .i v3, .i v4, .s v5]).go br (fun _ => none) S_R01_Compare.fin := by
  rw [← callF_eq]; kernel_rfl
theorem e_R01_Compare : EOK Tryd.prog 73 (gF S_R01_Compare m_R01_Compare) :=
  eokTold mixed named x123 (loopsOK_list rids noneIn) 60 S_R01_Compare m_R01_Compare (by
    intro us v h; unfold m_R01_Compare at h; split at h
    · rename_i v0 v1 v2 v3 v4 v5; exact q_R01_Compare v0 v1 v2 v3 v4 v5
    · cases h) false
noncomputable abbrev X124 : Ext := extT [(73, (gF S_R01_Compare m_R01_Compare))] X123
theorem x124 : XOK Tryd.prog X124 := xok1 x123 e_R01_Compare

/-- levee/leveeref02.Compare -/
def L_R02_Compare : FuncId → Nat → Option (List Nat) := liveT [(49, 2, [0, 1, 5]), (49, 1000002, [0, 1]), (49, 2000002, [4])]
def M_R02_Compare : FuncId → Bool := fun _ => false
noncomputable def rd_R02_Compare_49_2 : List U → Rt
  | [.l v0, .l v1, .i v2] =>
    (.test (decide (v2 < ln v0))
    (.test (decide (v2 < ln v1))
    (.test (inR v2 (ln v0))
    (.test (inR v2 (ln v1))
    (let r0 : Rs := (Rt.res (m_R01_Compare [U.i (cI (el v0 v2) 0), U.i (cI (el v0 v2) 1), U.s (cS (el v0 v2) 2), U.i (cI (el v1 v2) 0), U.i (cI (el v1 v2) 1), U.s (cS (el v1 v2) 2)]))
    (.test (ok r0 0)
    (.test (uI (out r0 0) 0 != (0 : Int))
    (.stop 0 [.i (uI (out r0 0) 0)])
    (.next [.l v0, .l v1, .i (w64 (v2 + (1 : Int)))]))
    .fail))
    .fail)
    .fail)
    (.stop 1 [.l v0, .l v1]))
    (.stop 1 [.l v0, .l v1]))
  | _ => .fail
def sp_R02_Compare_49_2 : LSp := ⟨41, ⟨[(0, .one (.l 34)), (1, .one (.l 34)), (5, .one (.i .i64))], []⟩, [(.ret, ⟨[(4, .one (.i .i64))], []⟩), (.exit 0, ⟨[(0, .one (.l 34)), (1, .one (.l 34))], []⟩)]⟩
set_option maxRecDepth 100000 in
theorem rq_R02_Compare_49_2 (v0 : List (List PV)) (v1 : List (List PV)) (v2 : Int) : runK br Tryd.prog (callK br Tryd.prog X124 M_R02_Compare L_R02_Compare (lsT []) 40) M_R02_Compare (lsT [] 49 0) 40 0 (L_R02_Compare 49) (bodyOf Tryd.prog 49 2) (sp_R02_Compare_49_2.s.ts sp_R02_Compare_49_2.n [.l v0, .l v1, .i v2]) (sp_R02_Compare_49_2.s.h [.l v0, .l v1, .i v2]) (idc Tryd.prog 0 (L_R02_Compare 49) 2) =
    (rd_R02_Compare_49_2 [.l v0, .l v1, .i v2]).go br (fun us' => some (.normal, sp_R02_Compare_49_2.s.ts sp_R02_Compare_49_2.n us', sp_R02_Compare_49_2.s.h us')) sp_R02_Compare_49_2.fin := by
  rw [← callF_eq, ← runF_eq]; kernel_rfl
theorem lo_R02_Compare_49_2 {R : Type} : LoopTells Tryd.prog X124 M_R02_Compare L_R02_Compare 0 (L_R02_Compare 49) (bodyOf Tryd.prog 49 2) (gL (R := R) sp_R02_Compare_49_2 rd_R02_Compare_49_2 br) :=
  loopTold (callK_ev (loopsOK_list rids noneIn) 40) (lsokIn (loopsOK_list rids noneIn) 49 0 2) (by kernel_rfl) sp_R02_Compare_49_2 rd_R02_Compare_49_2 rfl (by kernel_rfl) (by
    intro us v h; unfold rd_R02_Compare_49_2 at h; split at h
    · rename_i v0 v1 v2; exact rq_R02_Compare_49_2 v0 v1 v2
    · cases h)
noncomputable abbrev ll_R02_Compare_49_2 {R : Type} : List (Nat × Nat × Nat × Smy R) := (49, 0, 2, gL sp_R02_Compare_49_2 rd_R02_Compare_49_2 br) :: []
theorem lk_R02_Compare_49_2 {R : Type} : ∀ e ∈ ll_R02_Compare_49_2 (R := R), LoopTells Tryd.prog X124 M_R02_Compare L_R02_Compare e.2.1 (L_R02_Compare e.1) (bodyOf Tryd.prog e.1 e.2.2.1) e.2.2.2 := List.forall_mem_cons.2 ⟨lo_R02_Compare_49_2, noneIn⟩
def S_R02_Compare : FSp := ⟨[.one (.l 34), .one (.l 34)], [], [], [([.one (.i .i64)], [])]⟩
noncomputable def m_R02_Compare : List U → Rt
  | [.l v0, .l v1] =>
    (let r0 : Rs := (lres rd_R02_Compare_49_2 [U.l v0, U.l v1, U.i (0 : Int)])
    (.test (ok r0 0)
    (.stop 0 [.i (uI (out r0 0) 0)])
    (.test (ok r0 1)
    (.test (decide (ln (uL (out r0 1) 0) < ln (uL (out r0 1) 1)))
    (.stop 0 [.i ((-1 : Int))])
    (.test (decide (ln (uL (out r0 1) 0) > ln (uL (out r0 1) 1)))
    (.stop 0 [.i ((1 : Int))])
    (.stop 0 [.i ((0 : Int))])))
    .fail)))
  | _ => .fail
set_option maxRecDepth 100000 in
theorem q_R02_Compare (v0 : List (List PV)) (v1 : List (List PV)) : callK br Tryd.prog X124 M_R02_Compare L_R02_Compare (lsT ll_R02_Compare_49_2) 60 49 (encs [.l v0, .l v1] 0 S_R02_Compare.ap) (encH [.l v0, .l v1] (ws S_R02_Compare.ap) S_R02_Compare.ah) (fun y => fixR Tryd.prog S_R02_Compare.plan S_R02_Compare.ah.length y) =
    (m_R02_Compare [.l v0, .l v1]).go br (fun _ => none) S_R02_Compare.fin := by
  rw [← callF_eq]; kernel_rfl
theorem e_R02_Compare : EOK Tryd.prog 49 (gF S_R02_Compare m_R02_Compare) :=
  eokTold mixed named x124 (loopsOK_list rids lk_R02_Compare_49_2) 60 S_R02_Compare m_R02_Compare (by
    intro us v h; unfold m_R02_Compare at h; split at h
    · rename_i v0 v1; exact q_R02_Compare v0 v1
    · cases h) false
noncomputable abbrev X125 : Ext := extT [(49, (gF S_R02_Compare m_R02_Compare))] X124
theorem x125 : XOK Tryd.prog X125 := xok1 x124 e_R02_Compare

/-- levee/leveeref05.Add -/
def L_R05_Add : FuncId → Nat → Option (List Nat) := liveT [(52, 4, [0, 1, 2, 7, 8, 9]), (52, 1000004, [1, 2, 7, 8]), (52, 2000004, [6])]
def M_R05_Add : FuncId → Bool := fun _ => false
noncomputable def rd_R05_Add_52_4 : List U → Rt
  | [.l v0, .l v1, .i v2, .b v3, .i v4, .l v5] =>
    (.test (decide (v4 < ln v0))
    (.test (inR v4 (ln v0))
    (let r0 : Rs := (Rt.res (m_R02_Compare [U.l (cL (el v0 v4) 0), U.l v1]))
    (.test (ok r0 0)
    (.test (decide (uI (out r0 0) 0 ≥ (0 : Int)))
    (.test (!v3)
    (.test (uI (out r0 0) 0 == (0 : Int))
    (.test (inR v4 (ln v0))
    (.test (w64 (v2 + cI (el v0 v4) 1) != (0 : Int))
    (.test (decide ((List.length v5 + 1) * 32 ≤ 140737488355328))
    (.test (uI (out r0 0) 0 != (0 : Int))
    (.test (inR v4 (ln v0))
    (.test (decide ((List.length (v5 ++ [[PV.lst 34 v1, pI (w64 (v2 + cI (el v0 v4) 1))]]) + 1) * 32 ≤ 140737488355328))
    (.next [.l v0, .l v1, .i v2, .b true, .i (w64 (v4 + (1 : Int))), .l (v5 ++ [[PV.lst 34 v1, pI (w64 (v2 + cI (el v0 v4) 1))]] ++ [[PV.lst 34 (cL (el v0 v4) 0), pI (cI (el v0 v4) 1)]])])
    .fail)
    .fail)
    (.next [.l v0, .l v1, .i v2, .b true, .i (w64 (v4 + (1 : Int))), .l (v5 ++ [[PV.lst 34 v1, pI (w64 (v2 + cI (el v0 v4) 1))]])]))
    .fail)
    (.test (uI (out r0 0) 0 != (0 : Int))
    (.test (inR v4 (ln v0))
    (.test (decide ((List.length v5 + 1) * 32 ≤ 140737488355328))
    (.next [.l v0, .l v1, .i v2, .b true, .i (w64 (v4 + (1 : Int))), .l (v5 ++ [[PV.lst 34 (cL (el v0 v4) 0), pI (cI (el v0 v4) 1)]])])
    .fail)
    .fail)
    (.next [.l v0, .l v1, .i v2, .b true, .i (w64 (v4 + (1 : Int))), .l v5])))
    .fail)
    (.test (v2 != (0 : Int))
    (.test (decide ((List.length v5 + 1) * 32 ≤ 140737488355328))
    (.test (uI (out r0 0) 0 != (0 : Int))
    (.test (inR v4 (ln v0))
    (.test (decide ((List.length (v5 ++ [[PV.lst 34 v1, pI v2]]) + 1) * 32 ≤ 140737488355328))
    (.next [.l v0, .l v1, .i v2, .b true, .i (w64 (v4 + (1 : Int))), .l (v5 ++ [[PV.lst 34 v1, pI v2]] ++ [[PV.lst 34 (cL (el v0 v4) 0), pI (cI (el v0 v4) 1)]])])
    .fail)
    .fail)
    (.next [.l v0, .l v1, .i v2, .b true, .i (w64 (v4 + (1 : Int))), .l (v5 ++ [[PV.lst 34 v1, pI v2]])]))
    .fail)
    (.test (uI (out r0 0) 0 != (0 : Int))
    (.test (inR v4 (ln v0))
    (.test (decide ((List.length v5 + 1) * 32 ≤ 140737488355328))
    (.next [.l v0, .l v1, .i v2, .b true, .i (w64 (v4 + (1 : Int))), .l (v5 ++ [[PV.lst 34 (cL (el v0 v4) 0), pI (cI (el v0 v4) 1)]])])
    .fail)
    .fail)
    (.next [.l v0, .l v1, .i v2, .b true, .i (w64 (v4 + (1 : Int))), .l v5]))))
    (.test (uI (out r0 0) 0 != (0 : Int))
    (.test (inR v4 (ln v0))
    (.test (decide ((List.length v5 + 1) * 32 ≤ 140737488355328))
    (.next [.l v0, .l v1, .i v2, .b v3, .i (w64 (v4 + (1 : Int))), .l (v5 ++ [[PV.lst 34 (cL (el v0 v4) 0), pI (cI (el v0 v4) 1)]])])
    .fail)
    .fail)
    (.next [.l v0, .l v1, .i v2, .b v3, .i (w64 (v4 + (1 : Int))), .l v5])))
    (.test (uI (out r0 0) 0 != (0 : Int))
    (.test (inR v4 (ln v0))
    (.test (decide ((List.length v5 + 1) * 32 ≤ 140737488355328))
    (.next [.l v0, .l v1, .i v2, .b v3, .i (w64 (v4 + (1 : Int))), .l (v5 ++ [[PV.lst 34 (cL (el v0 v4) 0), pI (cI (el v0 v4) 1)]])])
    .fail)
    .fail)
    (.next [.l v0, .l v1, .i v2, .b v3, .i (w64 (v4 + (1 : Int))), .l v5])))
    .fail))
    .fail)
    (.stop 0 [.l v1, .i v2, .b v3, .l v5]))
  | _ => .fail
def sp_R05_Add_52_4 : LSp := ⟨72, ⟨[(0, .one (.l 58)), (1, .one (.l 34)), (2, .one (.i .i64)), (7, .one (.all 0)), (8, .one (.b)), (9, .one (.i .i64))], [.arr 58 true]⟩, [(.exit 0, ⟨[(1, .one (.l 34)), (2, .one (.i .i64)), (7, .one (.all 0)), (8, .one (.b))], [.arr 58 true]⟩)]⟩
set_option maxRecDepth 100000 in
theorem rq_R05_Add_52_4 (v0 : List (List PV)) (v1 : List (List PV)) (v2 : Int) (v3 : Bool) (v4 : Int) (v5 : List (List PV)) : runK br Tryd.prog (callK br Tryd.prog X125 M_R05_Add L_R05_Add (lsT []) 40) M_R05_Add (lsT [] 52 0) 40 0 (L_R05_Add 52) (bodyOf Tryd.prog 52 4) (sp_R05_Add_52_4.s.ts sp_R05_Add_52_4.n [.l v0, .l v1, .i v2, .b v3, .i v4, .l v5]) (sp_R05_Add_52_4.s.h [.l v0, .l v1, .i v2, .b v3, .i v4, .l v5]) (idc Tryd.prog 0 (L_R05_Add 52) 4) =
    (rd_R05_Add_52_4 [.l v0, .l v1, .i v2, .b v3, .i v4, .l v5]).go br (fun us' => some (.normal, sp_R05_Add_52_4.s.ts sp_R05_Add_52_4.n us', sp_R05_Add_52_4.s.h us')) sp_R05_Add_52_4.fin := by
  rw [← callF_eq, ← runF_eq]; kernel_rfl
theorem lo_R05_Add_52_4 {R : Type} : LoopTells Tryd.prog X125 M_R05_Add L_R05_Add 0 (L_R05_Add 52) (bodyOf Tryd.prog 52 4) (gL (R := R) sp_R05_Add_52_4 rd_R05_Add_52_4 br) :=
  loopTold (callK_ev (loopsOK_list rids noneIn) 40) (lsokIn (loopsOK_list rids noneIn) 52 0 4) (by kernel_rfl) sp_R05_Add_52_4 rd_R05_Add_52_4 rfl (by kernel_rfl) (by
    intro us v h; unfold rd_R05_Add_52_4 at h; split at h
    · rename_i v0 v1 v2 v3 v4 v5; exact rq_R05_Add_52_4 v0 v1 v2 v3 v4 v5
    · cases h)
noncomputable abbrev ll_R05_Add_52_4 {R : Type} : List (Nat × Nat × Nat × Smy R) := (52, 0, 4, gL sp_R05_Add_52_4 rd_R05_Add_52_4 br) :: []
theorem lk_R05_Add_52_4 {R : Type} : ∀ e ∈ ll_R05_Add_52_4 (R := R), LoopTells Tryd.prog X125 M_R05_Add L_R05_Add e.2.1 (L_R05_Add e.1) (bodyOf Tryd.prog e.1 e.2.2.1) e.2.2.2 := List.forall_mem_cons.2 ⟨lo_R05_Add_52_4, noneIn⟩
def S_R05_Add : FSp := ⟨[.one (.l 58), .one (.l 34), .one (.i .i64)], [], [], [([.one (.all 0)], [.arr 58 true])]⟩
noncomputable def m_R05_Add : List U → Rt
  | [.l v0, .l v1, .i v2] =>
    (let r0 : Rs := (lres rd_R05_Add_52_4 [U.l v0, U.l v1, U.i v2, U.b false, U.i (0 : Int), U.l []])
    (.test (ok r0 0)
    (.test (!uB (out r0 0) 2)
    (.test (uI (out r0 0) 1 != (0 : Int))
    (.test (decide ((List.length (uL (out r0 0) 3) + 1) * 32 ≤ 140737488355328))
    (.stop 0 [.l (uL (out r0 0) 3 ++ [[PV.lst 34 (uL (out r0 0) 0), pI (uI (out r0 0) 1)]])])
    .fail)
    (.stop 0 [.l (uL (out r0 0) 3)]))
    (.stop 0 [.l (uL (out r0 0) 3)]))
    .fail))
  | _ => .fail
set_option maxRecDepth 100000 in
theorem q_R05_Add (v0 : List (List PV)) (v1 : List (List PV)) (v2 : Int) : callK br Tryd.prog X125 M_R05_Add L_R05_Add (lsT ll_R05_Add_52_4) 60 52 (encs [.l v0, .l v1, .i v2] 0 S_R05_Add.ap) (encH [.l v0, .l v1, .i v2] (ws S_R05_Add.ap) S_R05_Add.ah) (fun y => fixR Tryd.prog S_R05_Add.plan S_R05_Add.ah.length y) =
    (m_R05_Add [.l v0, .l v1, .i v2]).go br (fun _ => none) S_R05_Add.fin := by
  rw [← callF_eq]; kernel_rfl
theorem e_R05_Add : EOK Tryd.prog 52 (gF S_R05_Add m_R05_Add) :=
  eokTold mixed named x125 (loopsOK_list rids lk_R05_Add_52_4) 60 S_R05_Add m_R05_Add (by
    intro us v h; unfold m_R05_Add at h; split at h
    · rename_i v0 v1 v2; exact q_R05_Add v0 v1 v2
    · cases h) false
noncomputable abbrev X126 : Ext := extT [(52, (gF S_R05_Add m_R05_Add))] X125
theorem x126 : XOK Tryd.prog X126 := xok1 x125 e_R05_Add

/-- levee/leveeref05.Of -/
def L_R05_Of : FuncId → Nat → Option (List Nat) := liveT [(26, 3, [0, 3, 4]), (26, 1000003, [3]), (26, 2000003, [2])]
def M_R05_Of : FuncId → Bool := fun _ => false
noncomputable def rd_R05_Of_26_3 : List U → Rt
  | [.l v0, .i v1, .l v2] =>
    (.test (decide (v1 < ln v0))
    (.test (inR v1 (ln v0))
    (let r0 : Rs := (Rt.res (m_R04_May [U.l (cL (el v0 v1) 0)]))
    (.test (ok r0 0)
    (.test (!uB (out r0 0) 0)
    (.stop 0 [])
    (.test (inR v1 (ln v0))
    (let r1 : Rs := (Rt.res (m_R05_Add [U.l v2, U.l (cL (el v0 v1) 0), U.i (1 : Int)]))
    (.test (ok r1 0)
    (.next [.l v0, .i (w64 (v1 + (1 : Int))), .l (uL (out r1 0) 0)])
    .fail))
    .fail))
    .fail))
    .fail)
    (.stop 1 [.l v2]))
  | _ => .fail
def sp_R05_Of_26_3 : LSp := ⟨25, ⟨[(0, .one (.l 26)), (3, .one (.all 0)), (4, .one (.i .i64))], [.arr 58 true]⟩, [(.ret, ⟨[(2, .one (.nils))], []⟩), (.exit 0, ⟨[(3, .one (.all 0))], [.arr 58 true]⟩)]⟩
set_option maxRecDepth 100000 in
theorem rq_R05_Of_26_3 (v0 : List (List PV)) (v1 : Int) (v2 : List (List PV)) : runK br Tryd.prog (callK br Tryd.prog X126 M_R05_Of L_R05_Of (lsT []) 40) M_R05_Of (lsT [] 26 0) 40 0 (L_R05_Of 26) (bodyOf Tryd.prog 26 3) (sp_R05_Of_26_3.s.ts sp_R05_Of_26_3.n [.l v0, .i v1, .l v2]) (sp_R05_Of_26_3.s.h [.l v0, .i v1, .l v2]) (idc Tryd.prog 0 (L_R05_Of 26) 3) =
    (rd_R05_Of_26_3 [.l v0, .i v1, .l v2]).go br (fun us' => some (.normal, sp_R05_Of_26_3.s.ts sp_R05_Of_26_3.n us', sp_R05_Of_26_3.s.h us')) sp_R05_Of_26_3.fin := by
  rw [← callF_eq, ← runF_eq]; kernel_rfl
theorem lo_R05_Of_26_3 {R : Type} : LoopTells Tryd.prog X126 M_R05_Of L_R05_Of 0 (L_R05_Of 26) (bodyOf Tryd.prog 26 3) (gL (R := R) sp_R05_Of_26_3 rd_R05_Of_26_3 br) :=
  loopTold (callK_ev (loopsOK_list rids noneIn) 40) (lsokIn (loopsOK_list rids noneIn) 26 0 3) (by kernel_rfl) sp_R05_Of_26_3 rd_R05_Of_26_3 rfl (by kernel_rfl) (by
    intro us v h; unfold rd_R05_Of_26_3 at h; split at h
    · rename_i v0 v1 v2; exact rq_R05_Of_26_3 v0 v1 v2
    · cases h)
noncomputable abbrev ll_R05_Of_26_3 {R : Type} : List (Nat × Nat × Nat × Smy R) := (26, 0, 3, gL sp_R05_Of_26_3 rd_R05_Of_26_3 br) :: []
theorem lk_R05_Of_26_3 {R : Type} : ∀ e ∈ ll_R05_Of_26_3 (R := R), LoopTells Tryd.prog X126 M_R05_Of L_R05_Of e.2.1 (L_R05_Of e.1) (bodyOf Tryd.prog e.1 e.2.2.1) e.2.2.2 := List.forall_mem_cons.2 ⟨lo_R05_Of_26_3, noneIn⟩
def S_R05_Of : FSp := ⟨[.one (.l 26)], [], [117000000], [([.one (.all 0)], [.arr 58 true])]⟩
noncomputable def m_R05_Of : List U → Rt
  | [.l v0] =>
    (let r0 : Rs := (lres rd_R05_Of_26_3 [U.l v0, U.i (0 : Int), U.l []])
    (.test (ok r0 0)
    (.stop 0 [.l []])
    (.test (ok r0 1)
    (.stop 0 [.l (uL (out r0 1) 0)])
    .fail)))
  | _ => .fail
set_option maxRecDepth 100000 in
theorem q_R05_Of (v0 : List (List PV)) : callK br Tryd.prog X126 M_R05_Of L_R05_Of (lsT ll_R05_Of_26_3) 60 26 (encs [.l v0] 0 S_R05_Of.ap) (encH [.l v0] (ws S_R05_Of.ap) S_R05_Of.ah) (fun y => fixR Tryd.prog S_R05_Of.plan S_R05_Of.ah.length y) =
    (m_R05_Of [.l v0]).go br (fun _ => none) S_R05_Of.fin := by
  rw [← callF_eq]; kernel_rfl
theorem e_R05_Of : EOK Tryd.prog 26 (gF S_R05_Of m_R05_Of) :=
  eokTold mixed named x126 (loopsOK_list rids lk_R05_Of_26_3) 60 S_R05_Of m_R05_Of (by
    intro us v h; unfold m_R05_Of at h; split at h
    · rename_i v0; exact q_R05_Of v0
    · cases h) false
noncomputable abbrev X127 : Ext := extT [(26, (gF S_R05_Of m_R05_Of))] X126
theorem x127 : XOK Tryd.prog X127 := xok1 x126 e_R05_Of

/-- levee/leveeref05.Same -/
def L_R05_Same : FuncId → Nat → Option (List Nat) := liveT [(24, 4, [0, 1, 5]), (24, 1000004, []), (24, 2000004, [4])]
def M_R05_Same : FuncId → Bool := fun _ => false
noncomputable def rd_R05_Same_24_4 : List U → Rt
  | [.l v0, .l v1, .i v2] =>
    (.test (decide (v2 < ln v0))
    (.test (inR v2 (ln v0))
    (.test (inR v2 (ln v1))
    (.test (cI (el v0 v2) 1 != cI (el v1 v2) 1)
    (.stop 0 [.b false])
    (.test (inR v2 (ln v0))
    (.test (inR v2 (ln v1))
    (let r0 : Rs := (Rt.res (m_R02_Compare [U.l (cL (el v0 v2) 0), U.l (cL (el v1 v2) 0)]))
    (.test (ok r0 0)
    (.test (uI (out r0 0) 0 != (0 : Int))
    (.stop 0 [.b false])
    (.next [.l v0, .l v1, .i (w64 (v2 + (1 : Int)))]))
    .fail))
    .fail)
    .fail))
    .fail)
    .fail)
    (.stop 1 []))
  | _ => .fail
def sp_R05_Same_24_4 : LSp := ⟨42, ⟨[(0, .one (.l 58)), (1, .one (.l 58)), (5, .one (.i .i64))], []⟩, [(.ret, ⟨[(4, .one (.b))], []⟩), (.exit 0, ⟨[], []⟩)]⟩
set_option maxRecDepth 100000 in
theorem rq_R05_Same_24_4 (v0 : List (List PV)) (v1 : List (List PV)) (v2 : Int) : runK br Tryd.prog (callK br Tryd.prog X127 M_R05_Same L_R05_Same (lsT []) 40) M_R05_Same (lsT [] 24 0) 40 0 (L_R05_Same 24) (bodyOf Tryd.prog 24 4) (sp_R05_Same_24_4.s.ts sp_R05_Same_24_4.n [.l v0, .l v1, .i v2]) (sp_R05_Same_24_4.s.h [.l v0, .l v1, .i v2]) (idc Tryd.prog 0 (L_R05_Same 24) 4) =
    (rd_R05_Same_24_4 [.l v0, .l v1, .i v2]).go br (fun us' => some (.normal, sp_R05_Same_24_4.s.ts sp_R05_Same_24_4.n us', sp_R05_Same_24_4.s.h us')) sp_R05_Same_24_4.fin := by
  rw [← callF_eq, ← runF_eq]; kernel_rfl
theorem lo_R05_Same_24_4 {R : Type} : LoopTells Tryd.prog X127 M_R05_Same L_R05_Same 0 (L_R05_Same 24) (bodyOf Tryd.prog 24 4) (gL (R := R) sp_R05_Same_24_4 rd_R05_Same_24_4 br) :=
  loopTold (callK_ev (loopsOK_list rids noneIn) 40) (lsokIn (loopsOK_list rids noneIn) 24 0 4) (by kernel_rfl) sp_R05_Same_24_4 rd_R05_Same_24_4 rfl (by kernel_rfl) (by
    intro us v h; unfold rd_R05_Same_24_4 at h; split at h
    · rename_i v0 v1 v2; exact rq_R05_Same_24_4 v0 v1 v2
    · cases h)
noncomputable abbrev ll_R05_Same_24_4 {R : Type} : List (Nat × Nat × Nat × Smy R) := (24, 0, 4, gL sp_R05_Same_24_4 rd_R05_Same_24_4 br) :: []
theorem lk_R05_Same_24_4 {R : Type} : ∀ e ∈ ll_R05_Same_24_4 (R := R), LoopTells Tryd.prog X127 M_R05_Same L_R05_Same e.2.1 (L_R05_Same e.1) (bodyOf Tryd.prog e.1 e.2.2.1) e.2.2.2 := List.forall_mem_cons.2 ⟨lo_R05_Same_24_4, noneIn⟩
def S_R05_Same : FSp := ⟨[.one (.l 58), .one (.l 58)], [], [], [([.one (.b)], [])]⟩
noncomputable def m_R05_Same : List U → Rt
  | [.l v0, .l v1] =>
    (.test (ln v0 != ln v1)
    (.stop 0 [.b false])
    (let r0 : Rs := (lres rd_R05_Same_24_4 [U.l v0, U.l v1, U.i (0 : Int)])
    (.test (ok r0 0)
    (.stop 0 [.b (uB (out r0 0) 0)])
    (.test (ok r0 1)
    (.stop 0 [.b true])
    .fail))))
  | _ => .fail
set_option maxRecDepth 100000 in
theorem q_R05_Same (v0 : List (List PV)) (v1 : List (List PV)) : callK br Tryd.prog X127 M_R05_Same L_R05_Same (lsT ll_R05_Same_24_4) 60 24 (encs [.l v0, .l v1] 0 S_R05_Same.ap) (encH [.l v0, .l v1] (ws S_R05_Same.ap) S_R05_Same.ah) (fun y => fixR Tryd.prog S_R05_Same.plan S_R05_Same.ah.length y) =
    (m_R05_Same [.l v0, .l v1]).go br (fun _ => none) S_R05_Same.fin := by
  rw [← callF_eq]; kernel_rfl
theorem e_R05_Same : EOK Tryd.prog 24 (gF S_R05_Same m_R05_Same) :=
  eokTold mixed named x127 (loopsOK_list rids lk_R05_Same_24_4) 60 S_R05_Same m_R05_Same (by
    intro us v h; unfold m_R05_Same at h; split at h
    · rename_i v0 v1; exact q_R05_Same v0 v1
    · cases h) false
noncomputable abbrev X128 : Ext := extT [(24, (gF S_R05_Same m_R05_Same))] X127
theorem x128 : XOK Tryd.prog X128 := xok1 x127 e_R05_Same

/-- levee/leveelaw05.BagOf -/
def L_L05_BagOf : FuncId → Nat → Option (List Nat) := liveT []
def M_L05_BagOf : FuncId → Bool := fun _ => false
def S_L05_BagOf : FSp := ⟨[.one (.l 26)], [], [], [([.one (.b)], [])]⟩
noncomputable def m_L05_BagOf : List U → Rt
  | [.l v0] =>
    (let r0 : Rs := (Rt.res (m_R04_Short [U.l v0]))
    (.test (ok r0 0)
    (.test (!uB (out r0 0) 0)
    (let r1 : Rs := (Rt.res (m_L05_fixed []))
    (.test (ok r1 0)
    (.stop 0 [.b (uB (out r1 0) 0)])
    .fail))
    (let r2 : Rs := (Rt.res (m_L05_fixed []))
    (.test (ok r2 0)
    (.test (uB (out r2 0) 0)
    (let r3 : Rs := (Rt.res (m_bag_Of [U.l v0]))
    (.test (ok r3 0)
    (let r4 : Rs := (Rt.res (m_R05_Of [U.l v0]))
    (.test (ok r4 0)
    (let r5 : Rs := (Rt.res (m_R05_Same [U.l (uL (out r3 0) 0), U.l (uL (out r4 0) 0)]))
    (.test (ok r5 0)
    (.stop 0 [.b (uB (out r5 0) 0)])
    .fail))
    .fail))
    .fail))
    (.stop 0 [.b false]))
    .fail)))
    .fail))
  | _ => .fail
set_option maxRecDepth 100000 in
theorem q_L05_BagOf (v0 : List (List PV)) : callK br Tryd.prog X128 M_L05_BagOf L_L05_BagOf (lsT []) 60 7 (encs [.l v0] 0 S_L05_BagOf.ap) (encH [.l v0] (ws S_L05_BagOf.ap) S_L05_BagOf.ah) (fun y => fixR Tryd.prog S_L05_BagOf.plan S_L05_BagOf.ah.length y) =
    (m_L05_BagOf [.l v0]).go br (fun _ => none) S_L05_BagOf.fin := by
  rw [← callF_eq]; kernel_rfl
theorem e_L05_BagOf : EOK Tryd.prog 7 (gF S_L05_BagOf m_L05_BagOf) :=
  eokTold mixed named x128 (loopsOK_list rids noneIn) 60 S_L05_BagOf m_L05_BagOf (by
    intro us v h; unfold m_L05_BagOf at h; split at h
    · rename_i v0; exact q_L05_BagOf v0
    · cases h) false
noncomputable abbrev X129 : Ext := extT [(7, (gF S_L05_BagOf m_L05_BagOf))] X128
theorem x129 : XOK Tryd.prog X129 := xok1 x128 e_L05_BagOf

/-- levee/leveeref05.Small -/
def L_R05_Small : FuncId → Nat → Option (List Nat) := liveT [(37, 2, [0, 3]), (37, 1000002, [0]), (37, 2000002, [2])]
def M_R05_Small : FuncId → Bool := fun _ => false
noncomputable def rd_R05_Small_37_2 : List U → Rt
  | [.l v0, .i v1] =>
    (.test (decide (v1 < ln v0))
    (.test (inR v1 (ln v0))
    (let r0 : Rs := (Rt.res (m_R02_Short [U.l (cL (el v0 v1) 0)]))
    (.test (ok r0 0)
    (.test (!uB (out r0 0) 0)
    (.stop 0 [.b false])
    (.next [.l v0, .i (w64 (v1 + (1 : Int)))]))
    .fail))
    .fail)
    (.stop 1 [.l v0]))
  | _ => .fail
def sp_R05_Small_37_2 : LSp := ⟨20, ⟨[(0, .one (.l 58)), (3, .one (.i .i64))], []⟩, [(.ret, ⟨[(2, .one (.b))], []⟩), (.exit 0, ⟨[(0, .one (.l 58))], []⟩)]⟩
set_option maxRecDepth 100000 in
theorem rq_R05_Small_37_2 (v0 : List (List PV)) (v1 : Int) : runK br Tryd.prog (callK br Tryd.prog X129 M_R05_Small L_R05_Small (lsT []) 40) M_R05_Small (lsT [] 37 0) 40 0 (L_R05_Small 37) (bodyOf Tryd.prog 37 2) (sp_R05_Small_37_2.s.ts sp_R05_Small_37_2.n [.l v0, .i v1]) (sp_R05_Small_37_2.s.h [.l v0, .i v1]) (idc Tryd.prog 0 (L_R05_Small 37) 2) =
    (rd_R05_Small_37_2 [.l v0, .i v1]).go br (fun us' => some (.normal, sp_R05_Small_37_2.s.ts sp_R05_Small_37_2.n us', sp_R05_Small_37_2.s.h us')) sp_R05_Small_37_2.fin := by
  rw [← callF_eq, ← runF_eq]; kernel_rfl
theorem lo_R05_Small_37_2 {R : Type} : LoopTells Tryd.prog X129 M_R05_Small L_R05_Small 0 (L_R05_Small 37) (bodyOf Tryd.prog 37 2) (gL (R := R) sp_R05_Small_37_2 rd_R05_Small_37_2 br) :=
  loopTold (callK_ev (loopsOK_list rids noneIn) 40) (lsokIn (loopsOK_list rids noneIn) 37 0 2) (by kernel_rfl) sp_R05_Small_37_2 rd_R05_Small_37_2 rfl (by kernel_rfl) (by
    intro us v h; unfold rd_R05_Small_37_2 at h; split at h
    · rename_i v0 v1; exact rq_R05_Small_37_2 v0 v1
    · cases h)
noncomputable abbrev ll_R05_Small_37_2 {R : Type} : List (Nat × Nat × Nat × Smy R) := (37, 0, 2, gL sp_R05_Small_37_2 rd_R05_Small_37_2 br) :: []
theorem lk_R05_Small_37_2 {R : Type} : ∀ e ∈ ll_R05_Small_37_2 (R := R), LoopTells Tryd.prog X129 M_R05_Small L_R05_Small e.2.1 (L_R05_Small e.1) (bodyOf Tryd.prog e.1 e.2.2.1) e.2.2.2 := List.forall_mem_cons.2 ⟨lo_R05_Small_37_2, noneIn⟩
def S_R05_Small : FSp := ⟨[.one (.l 58)], [], [], [([.one (.b)], [])]⟩
noncomputable def m_R05_Small : List U → Rt
  | [.l v0] =>
    (let r0 : Rs := (lres rd_R05_Small_37_2 [U.l v0, U.i (0 : Int)])
    (.test (ok r0 0)
    (.stop 0 [.b (uB (out r0 0) 0)])
    (.test (ok r0 1)
    (.stop 0 [.b (decide (ln (uL (out r0 1) 0) ≤ (60 : Int)))])
    .fail)))
  | _ => .fail
set_option maxRecDepth 100000 in
theorem q_R05_Small (v0 : List (List PV)) : callK br Tryd.prog X129 M_R05_Small L_R05_Small (lsT ll_R05_Small_37_2) 60 37 (encs [.l v0] 0 S_R05_Small.ap) (encH [.l v0] (ws S_R05_Small.ap) S_R05_Small.ah) (fun y => fixR Tryd.prog S_R05_Small.plan S_R05_Small.ah.length y) =
    (m_R05_Small [.l v0]).go br (fun _ => none) S_R05_Small.fin := by
  rw [← callF_eq]; kernel_rfl
theorem e_R05_Small : EOK Tryd.prog 37 (gF S_R05_Small m_R05_Small) :=
  eokTold mixed named x129 (loopsOK_list rids lk_R05_Small_37_2) 60 S_R05_Small m_R05_Small (by
    intro us v h; unfold m_R05_Small at h; split at h
    · rename_i v0; exact q_R05_Small v0
    · cases h) false
noncomputable abbrev X130 : Ext := extT [(37, (gF S_R05_Small m_R05_Small))] X129
theorem x130 : XOK Tryd.prog X130 := xok1 x129 e_R05_Small

/-- levee/leveeref05.Fits -/
def L_R05_Fits : FuncId → Nat → Option (List Nat) := liveT []
def M_R05_Fits : FuncId → Bool := fun _ => false
def S_R05_Fits : FSp := ⟨[.one (.i .i64)], [], [], [([.one (.b)], [])]⟩
noncomputable def m_R05_Fits : List U → Rt
  | [.i v0] =>
    (.test (decide (v0 ≥ (-1000000000 : Int)))
    (.stop 0 [.b (decide (v0 ≤ (1000000000 : Int)))])
    (.stop 0 [.b false]))
  | _ => .fail
set_option maxRecDepth 100000 in
theorem q_R05_Fits (v0 : Int) : callK br Tryd.prog X130 M_R05_Fits L_R05_Fits (lsT []) 60 63 (encs [.i v0] 0 S_R05_Fits.ap) (encH [.i v0] (ws S_R05_Fits.ap) S_R05_Fits.ah) (fun y => fixR Tryd.prog S_R05_Fits.plan S_R05_Fits.ah.length y) =
    (m_R05_Fits [.i v0]).go br (fun _ => none) S_R05_Fits.fin := by
  rw [← callF_eq]; kernel_rfl
theorem e_R05_Fits : EOK Tryd.prog 63 (gF S_R05_Fits m_R05_Fits) :=
  eokTold mixed named x130 (loopsOK_list rids noneIn) 60 S_R05_Fits m_R05_Fits (by
    intro us v h; unfold m_R05_Fits at h; split at h
    · rename_i v0; exact q_R05_Fits v0
    · cases h) false
noncomputable abbrev X131 : Ext := extT [(63, (gF S_R05_Fits m_R05_Fits))] X130
theorem x131 : XOK Tryd.prog X131 := xok1 x130 e_R05_Fits

/-- levee/leveeref05.May -/
def L_R05_May : FuncId → Nat → Option (List Nat) := liveT [(38, 2, [0, 3]), (38, 1000002, []), (38, 2000002, [2])]
def M_R05_May : FuncId → Bool := fun _ => false
noncomputable def rd_R05_May_38_2 : List U → Rt
  | [.l v0, .i v1] =>
    (.test (decide (v1 < ln v0))
    (.test (inR v1 (ln v0))
    (.test (cI (el v0 v1) 1 == (0 : Int))
    (.stop 0 [.b false])
    (.test (inR v1 (ln v0))
    (let r0 : Rs := (Rt.res (m_R05_Fits [U.i (cI (el v0 v1) 1)]))
    (.test (ok r0 0)
    (.test (!uB (out r0 0) 0)
    (.stop 0 [.b false])
    (.test (inR v1 (ln v0))
    (let r1 : Rs := (Rt.res (m_R04_May [U.l (cL (el v0 v1) 0)]))
    (.test (ok r1 0)
    (.test (!uB (out r1 0) 0)
    (.stop 0 [.b false])
    (.test (decide (v1 > (0 : Int)))
    (.test (inR (w64 (v1 - (1 : Int))) (ln v0))
    (.test (inR v1 (ln v0))
    (let r2 : Rs := (Rt.res (m_R02_Compare [U.l (cL (el v0 (w64 (v1 - (1 : Int)))) 0), U.l (cL (el v0 v1) 0)]))
    (.test (ok r2 0)
    (.test (decide (uI (out r2 0) 0 ≥ (0 : Int)))
    (.stop 0 [.b false])
    (.next [.l v0, .i (w64 (v1 + (1 : Int)))]))
    .fail))
    .fail)
    .fail)
    (.next [.l v0, .i (w64 (v1 + (1 : Int)))])))
    .fail))
    .fail))
    .fail))
    .fail))
    .fail)
    (.stop 1 []))
  | _ => .fail
def sp_R05_May_38_2 : LSp := ⟨53, ⟨[(0, .one (.l 58)), (3, .one (.i .i64))], []⟩, [(.ret, ⟨[(2, .one (.b))], []⟩), (.exit 0, ⟨[], []⟩)]⟩
set_option maxRecDepth 100000 in
theorem rq_R05_May_38_2 (v0 : List (List PV)) (v1 : Int) : runK br Tryd.prog (callK br Tryd.prog X131 M_R05_May L_R05_May (lsT []) 40) M_R05_May (lsT [] 38 0) 40 0 (L_R05_May 38) (bodyOf Tryd.prog 38 2) (sp_R05_May_38_2.s.ts sp_R05_May_38_2.n [.l v0, .i v1]) (sp_R05_May_38_2.s.h [.l v0, .i v1]) (idc Tryd.prog 0 (L_R05_May 38) 2) =
    (rd_R05_May_38_2 [.l v0, .i v1]).go br (fun us' => some (.normal, sp_R05_May_38_2.s.ts sp_R05_May_38_2.n us', sp_R05_May_38_2.s.h us')) sp_R05_May_38_2.fin := by
  rw [← callF_eq, ← runF_eq]; kernel_rfl
theorem lo_R05_May_38_2 {R : Type} : LoopTells Tryd.prog X131 M_R05_May L_R05_May 0 (L_R05_May 38) (bodyOf Tryd.prog 38 2) (gL (R := R) sp_R05_May_38_2 rd_R05_May_38_2 br) :=
  loopTold (callK_ev (loopsOK_list rids noneIn) 40) (lsokIn (loopsOK_list rids noneIn) 38 0 2) (by kernel_rfl) sp_R05_May_38_2 rd_R05_May_38_2 rfl (by kernel_rfl) (by
    intro us v h; unfold rd_R05_May_38_2 at h; split at h
    · rename_i v0 v1; exact rq_R05_May_38_2 v0 v1
    · cases h)
noncomputable abbrev ll_R05_May_38_2 {R : Type} : List (Nat × Nat × Nat × Smy R) := (38, 0, 2, gL sp_R05_May_38_2 rd_R05_May_38_2 br) :: []
theorem lk_R05_May_38_2 {R : Type} : ∀ e ∈ ll_R05_May_38_2 (R := R), LoopTells Tryd.prog X131 M_R05_May L_R05_May e.2.1 (L_R05_May e.1) (bodyOf Tryd.prog e.1 e.2.2.1) e.2.2.2 := List.forall_mem_cons.2 ⟨lo_R05_May_38_2, noneIn⟩
def S_R05_May : FSp := ⟨[.one (.l 58)], [], [], [([.one (.b)], [])]⟩
noncomputable def m_R05_May : List U → Rt
  | [.l v0] =>
    (let r0 : Rs := (lres rd_R05_May_38_2 [U.l v0, U.i (0 : Int)])
    (.test (ok r0 0)
    (.stop 0 [.b (uB (out r0 0) 0)])
    (.test (ok r0 1)
    (.stop 0 [.b true])
    .fail)))
  | _ => .fail
set_option maxRecDepth 100000 in
theorem q_R05_May (v0 : List (List PV)) : callK br Tryd.prog X131 M_R05_May L_R05_May (lsT ll_R05_May_38_2) 60 38 (encs [.l v0] 0 S_R05_May.ap) (encH [.l v0] (ws S_R05_May.ap) S_R05_May.ah) (fun y => fixR Tryd.prog S_R05_May.plan S_R05_May.ah.length y) =
    (m_R05_May [.l v0]).go br (fun _ => none) S_R05_May.fin := by
  rw [← callF_eq]; kernel_rfl
theorem e_R05_May : EOK Tryd.prog 38 (gF S_R05_May m_R05_May) :=
  eokTold mixed named x131 (loopsOK_list rids lk_R05_May_38_2) 60 S_R05_May m_R05_May (by
    intro us v h; unfold m_R05_May at h; split at h
    · rename_i v0; exact q_R05_May v0
    · cases h) false
noncomputable abbrev X132 : Ext := extT [(38, (gF S_R05_May m_R05_May))] X131
theorem x132 : XOK Tryd.prog X132 := xok1 x131 e_R05_May

/-- levee/leveelaw05.low -/
def L_L05_low : FuncId → Nat → Option (List Nat) := liveT [(27, 2, [0, 3]), (27, 1000002, [0]), (27, 2000002, [2])]
def M_L05_low : FuncId → Bool := fun _ => false
noncomputable def rd_L05_low_27_2 : List U → Rt
  | [.l v0, .i v1] =>
    (.test (decide (v1 < ln v0))
    (.test (inR v1 (ln v0))
    (.test (decide (cI (el v0 v1) 1 > (1000000 : Int)))
    (.stop 0 [.b false])
    (.test (inR v1 (ln v0))
    (.test (decide (cI (el v0 v1) 1 < (-1000000 : Int)))
    (.stop 0 [.b false])
    (.next [.l v0, .i (w64 (v1 + (1 : Int)))]))
    .fail))
    .fail)
    (.stop 1 [.l v0]))
  | _ => .fail
def sp_L05_low_27_2 : LSp := ⟨30, ⟨[(0, .one (.l 58)), (3, .one (.i .i64))], []⟩, [(.ret, ⟨[(2, .one (.b))], []⟩), (.exit 0, ⟨[(0, .one (.l 58))], []⟩)]⟩
set_option maxRecDepth 100000 in
theorem rq_L05_low_27_2 (v0 : List (List PV)) (v1 : Int) : runK br Tryd.prog (callK br Tryd.prog X132 M_L05_low L_L05_low (lsT []) 40) M_L05_low (lsT [] 27 0) 40 0 (L_L05_low 27) (bodyOf Tryd.prog 27 2) (sp_L05_low_27_2.s.ts sp_L05_low_27_2.n [.l v0, .i v1]) (sp_L05_low_27_2.s.h [.l v0, .i v1]) (idc Tryd.prog 0 (L_L05_low 27) 2) =
    (rd_L05_low_27_2 [.l v0, .i v1]).go br (fun us' => some (.normal, sp_L05_low_27_2.s.ts sp_L05_low_27_2.n us', sp_L05_low_27_2.s.h us')) sp_L05_low_27_2.fin := by
  rw [← callF_eq, ← runF_eq]; kernel_rfl
theorem lo_L05_low_27_2 {R : Type} : LoopTells Tryd.prog X132 M_L05_low L_L05_low 0 (L_L05_low 27) (bodyOf Tryd.prog 27 2) (gL (R := R) sp_L05_low_27_2 rd_L05_low_27_2 br) :=
  loopTold (callK_ev (loopsOK_list rids noneIn) 40) (lsokIn (loopsOK_list rids noneIn) 27 0 2) (by kernel_rfl) sp_L05_low_27_2 rd_L05_low_27_2 rfl (by kernel_rfl) (by
    intro us v h; unfold rd_L05_low_27_2 at h; split at h
    · rename_i v0 v1; exact rq_L05_low_27_2 v0 v1
    · cases h)
noncomputable abbrev ll_L05_low_27_2 {R : Type} : List (Nat × Nat × Nat × Smy R) := (27, 0, 2, gL sp_L05_low_27_2 rd_L05_low_27_2 br) :: []
theorem lk_L05_low_27_2 {R : Type} : ∀ e ∈ ll_L05_low_27_2 (R := R), LoopTells Tryd.prog X132 M_L05_low L_L05_low e.2.1 (L_L05_low e.1) (bodyOf Tryd.prog e.1 e.2.2.1) e.2.2.2 := List.forall_mem_cons.2 ⟨lo_L05_low_27_2, noneIn⟩
def S_L05_low : FSp := ⟨[.one (.l 58)], [], [], [([.one (.b)], [])]⟩
noncomputable def m_L05_low : List U → Rt
  | [.l v0] =>
    (let r0 : Rs := (lres rd_L05_low_27_2 [U.l v0, U.i (0 : Int)])
    (.test (ok r0 0)
    (.stop 0 [.b (uB (out r0 0) 0)])
    (.test (ok r0 1)
    (let r1 : Rs := (Rt.res (m_R05_Small [U.l (uL (out r0 1) 0)]))
    (.test (ok r1 0)
    (.test (uB (out r1 0) 0)
    (let r2 : Rs := (Rt.res (m_R05_May [U.l (uL (out r0 1) 0)]))
    (.test (ok r2 0)
    (.stop 0 [.b (uB (out r2 0) 0)])
    .fail))
    (.stop 0 [.b false]))
    .fail))
    .fail)))
  | _ => .fail
set_option maxRecDepth 100000 in
theorem q_L05_low (v0 : List (List PV)) : callK br Tryd.prog X132 M_L05_low L_L05_low (lsT ll_L05_low_27_2) 60 27 (encs [.l v0] 0 S_L05_low.ap) (encH [.l v0] (ws S_L05_low.ap) S_L05_low.ah) (fun y => fixR Tryd.prog S_L05_low.plan S_L05_low.ah.length y) =
    (m_L05_low [.l v0]).go br (fun _ => none) S_L05_low.fin := by
  rw [← callF_eq]; kernel_rfl
theorem e_L05_low : EOK Tryd.prog 27 (gF S_L05_low m_L05_low) :=
  eokTold mixed named x132 (loopsOK_list rids lk_L05_low_27_2) 60 S_L05_low m_L05_low (by
    intro us v h; unfold m_L05_low at h; split at h
    · rename_i v0; exact q_L05_low v0
    · cases h) false
noncomputable abbrev X133 : Ext := extT [(27, (gF S_L05_low m_L05_low))] X132
theorem x133 : XOK Tryd.prog X133 := xok1 x132 e_L05_low

/-- levee/leveelaw05.BagSums -/
def L_L05_BagSums : FuncId → Nat → Option (List Nat) := liveT [(8, 7, [0, 1, 2, 7, 8]), (8, 1000007, []), (8, 2000007, [6])]
def M_L05_BagSums : FuncId → Bool := fun _ => false
noncomputable def rd_L05_BagSums_8_7 : List U → Rt
  | [.l v0, .l v1, .l v2, .i v3, .l v4] =>
    (.test (decide (v3 < ln v0))
    (.test (inR v3 (ln v0))
    (let r0 : Rs := (Rt.res (m_bag_Get [U.l v4, U.l (cL (el v0 v3) 0)]))
    (.test (ok r0 0)
    (let r1 : Rs := (Rt.res (m_bag_Get [U.l v0, U.l (cL (el v0 v3) 0)]))
    (.test (ok r1 0)
    (let r2 : Rs := (Rt.res (m_bag_Get [U.l v1, U.l (cL (el v0 v3) 0)]))
    (.test (ok r2 0)
    (let r3 : Rs := (Rt.res (m_bag_Get [U.l v2, U.l (cL (el v0 v3) 0)]))
    (.test (ok r3 0)
    (.test (uI (out r0 0) 0 != w64 (w64 (uI (out r1 0) 0 + uI (out r2 0) 0) + uI (out r3 0) 0))
    (.stop 0 [.b false])
    (.next [.l v0, .l v1, .l v2, .i (w64 (v3 + (1 : Int))), .l v4]))
    .fail))
    .fail))
    .fail))
    .fail))
    .fail)
    (.stop 1 []))
  | _ => .fail
def sp_L05_BagSums_8_7 : LSp := ⟨97, ⟨[(0, .one (.l 58)), (1, .one (.l 58)), (2, .one (.l 58)), (7, .one (.all 0)), (8, .one (.i .i64))], [.arr 58 false]⟩, [(.ret, ⟨[(6, .one (.b))], []⟩), (.exit 0, ⟨[], []⟩)]⟩
set_option maxRecDepth 100000 in
theorem rq_L05_BagSums_8_7 (v0 : List (List PV)) (v1 : List (List PV)) (v2 : List (List PV)) (v3 : Int) (v4 : List (List PV)) : runK br Tryd.prog (callK br Tryd.prog X133 M_L05_BagSums L_L05_BagSums (lsT []) 40) M_L05_BagSums (lsT [] 8 0) 40 0 (L_L05_BagSums 8) (bodyOf Tryd.prog 8 7) (sp_L05_BagSums_8_7.s.ts sp_L05_BagSums_8_7.n [.l v0, .l v1, .l v2, .i v3, .l v4]) (sp_L05_BagSums_8_7.s.h [.l v0, .l v1, .l v2, .i v3, .l v4]) (idc Tryd.prog 0 (L_L05_BagSums 8) 7) =
    (rd_L05_BagSums_8_7 [.l v0, .l v1, .l v2, .i v3, .l v4]).go br (fun us' => some (.normal, sp_L05_BagSums_8_7.s.ts sp_L05_BagSums_8_7.n us', sp_L05_BagSums_8_7.s.h us')) sp_L05_BagSums_8_7.fin := by
  rw [← callF_eq, ← runF_eq]; kernel_rfl
theorem lo_L05_BagSums_8_7 {R : Type} : LoopTells Tryd.prog X133 M_L05_BagSums L_L05_BagSums 0 (L_L05_BagSums 8) (bodyOf Tryd.prog 8 7) (gL (R := R) sp_L05_BagSums_8_7 rd_L05_BagSums_8_7 br) :=
  loopTold (callK_ev (loopsOK_list rids noneIn) 40) (lsokIn (loopsOK_list rids noneIn) 8 0 7) (by kernel_rfl) sp_L05_BagSums_8_7 rd_L05_BagSums_8_7 rfl (by kernel_rfl) (by
    intro us v h; unfold rd_L05_BagSums_8_7 at h; split at h
    · rename_i v0 v1 v2 v3 v4; exact rq_L05_BagSums_8_7 v0 v1 v2 v3 v4
    · cases h)
noncomputable abbrev ll_L05_BagSums_8_7 {R : Type} : List (Nat × Nat × Nat × Smy R) := (8, 0, 7, gL sp_L05_BagSums_8_7 rd_L05_BagSums_8_7 br) :: []
theorem lk_L05_BagSums_8_7 {R : Type} : ∀ e ∈ ll_L05_BagSums_8_7 (R := R), LoopTells Tryd.prog X133 M_L05_BagSums L_L05_BagSums e.2.1 (L_L05_BagSums e.1) (bodyOf Tryd.prog e.1 e.2.2.1) e.2.2.2 := List.forall_mem_cons.2 ⟨lo_L05_BagSums_8_7, noneIn⟩
def S_L05_BagSums : FSp := ⟨[.one (.l 58), .one (.l 58), .one (.l 58)], [], [], [([.one (.b)], [])]⟩
noncomputable def m_L05_BagSums : List U → Rt
  | [.l v0, .l v1, .l v2] =>
    (let r0 : Rs := (Rt.res (m_L05_fixed []))
    (.test (ok r0 0)
    (.test (!uB (out r0 0) 0)
    (let r1 : Rs := (Rt.res (m_L05_fixed []))
    (.test (ok r1 0)
    (.stop 0 [.b (uB (out r1 0) 0)])
    .fail))
    (let r2 : Rs := (Rt.res (m_L05_low [U.l v0]))
    (.test (ok r2 0)
    (.test (!uB (out r2 0) 0)
    (let r3 : Rs := (Rt.res (m_L05_fixed []))
    (.test (ok r3 0)
    (.stop 0 [.b (uB (out r3 0) 0)])
    .fail))
    (let r4 : Rs := (Rt.res (m_L05_low [U.l v1]))
    (.test (ok r4 0)
    (.test (!uB (out r4 0) 0)
    (let r5 : Rs := (Rt.res (m_L05_fixed []))
    (.test (ok r5 0)
    (.stop 0 [.b (uB (out r5 0) 0)])
    .fail))
    (let r6 : Rs := (Rt.res (m_L05_low [U.l v2]))
    (.test (ok r6 0)
    (.test (!uB (out r6 0) 0)
    (let r7 : Rs := (Rt.res (m_L05_fixed []))
    (.test (ok r7 0)
    (.stop 0 [.b (uB (out r7 0) 0)])
    .fail))
    (let r8 : Rs := (Rt.res (m_bag_Plus [U.l [[PV.lst 58 v0], [PV.lst 58 v1], [PV.lst 58 v2]]]))
    (.test (ok r8 0)
    (let r9 : Rs := (Rt.res (m_bag_Plus [U.l [[PV.lst 58 v2], [PV.lst 58 v0], [PV.lst 58 v1]]]))
    (.test (ok r9 0)
    (let r10 : Rs := (Rt.res (m_R05_Same [U.l (uL (out r8 0) 0), U.l (uL (out r9 0) 0)]))
    (.test (ok r10 0)
    (.test (!uB (out r10 0) 0)
    (.stop 0 [.b false])
    (let r11 : Rs := (Rt.res (m_bag_Plus [U.l [[PV.lst 58 v0], [PV.lst 58 v1]]]))
    (.test (ok r11 0)
    (let r12 : Rs := (Rt.res (m_bag_Plus [U.l [[PV.lst 58 (uL (out r11 0) 0)], [PV.lst 58 v2]]]))
    (.test (ok r12 0)
    (let r13 : Rs := (Rt.res (m_R05_Same [U.l (uL (out r8 0) 0), U.l (uL (out r12 0) 0)]))
    (.test (ok r13 0)
    (.test (!uB (out r13 0) 0)
    (.stop 0 [.b false])
    (let r14 : Rs := (Rt.res (m_bag_Neg [U.l v1]))
    (.test (ok r14 0)
    (let r15 : Rs := (Rt.res (m_bag_Plus [U.l [[PV.lst 58 (uL (out r8 0) 0)], [PV.lst 58 (uL (out r14 0) 0)]]]))
    (.test (ok r15 0)
    (let r16 : Rs := (Rt.res (m_bag_Plus [U.l [[PV.lst 58 v0], [PV.lst 58 v2]]]))
    (.test (ok r16 0)
    (let r17 : Rs := (Rt.res (m_R05_Same [U.l (uL (out r15 0) 0), U.l (uL (out r16 0) 0)]))
    (.test (ok r17 0)
    (.test (!uB (out r17 0) 0)
    (.stop 0 [.b false])
    (let r18 : Rs := (Rt.res (m_bag_May [U.l (uL (out r8 0) 0)]))
    (.test (ok r18 0)
    (.test (!uB (out r18 0) 0)
    (.stop 0 [.b false])
    (let r19 : Rs := (lres rd_L05_BagSums_8_7 [U.l v0, U.l v1, U.l v2, U.i (0 : Int), U.l (uL (out r8 0) 0)])
    (.test (ok r19 0)
    (.stop 0 [.b (uB (out r19 0) 0)])
    (.test (ok r19 1)
    (.stop 0 [.b true])
    .fail))))
    .fail)))
    .fail))
    .fail))
    .fail))
    .fail)))
    .fail))
    .fail))
    .fail)))
    .fail))
    .fail))
    .fail)))
    .fail)))
    .fail)))
    .fail)))
    .fail))
  | _ => .fail
set_option maxRecDepth 100000 in
theorem q_L05_BagSums (v0 : List (List PV)) (v1 : List (List PV)) (v2 : List (List PV)) : callK br Tryd.prog X133 M_L05_BagSums L_L05_BagSums (lsT ll_L05_BagSums_8_7) 60 8 (encs [.l v0, .l v1, .l v2] 0 S_L05_BagSums.ap) (encH [.l v0, .l v1, .l v2] (ws S_L05_BagSums.ap) S_L05_BagSums.ah) (fun y => fixR Tryd.prog S_L05_BagSums.plan S_L05_BagSums.ah.length y) =
    (m_L05_BagSums [.l v0, .l v1, .l v2]).go br (fun _ => none) S_L05_BagSums.fin := by
  rw [← callF_eq]; kernel_rfl
theorem e_L05_BagSums : EOK Tryd.prog 8 (gF S_L05_BagSums m_L05_BagSums) :=
  eokTold mixed named x133 (loopsOK_list rids lk_L05_BagSums_8_7) 60 S_L05_BagSums m_L05_BagSums (by
    intro us v h; unfold m_L05_BagSums at h; split at h
    · rename_i v0 v1 v2; exact q_L05_BagSums v0 v1 v2
    · cases h) false
noncomputable abbrev X134 : Ext := extT [(8, (gF S_L05_BagSums m_L05_BagSums))] X133
theorem x134 : XOK Tryd.prog X134 := xok1 x133 e_L05_BagSums

/-- levee/leveeref04.Sort -/
def L_R04_Sort : FuncId → Nat → Option (List Nat) := liveT [(35, 6, [0, 3, 4, 5]), (35, 1000006, [0, 3, 4, 5]), (35, 2000006, [2]), (35, 3, [0, 3, 4]), (35, 1000003, [3]), (35, 2000003, [2])]
def M_R04_Sort : FuncId → Bool := fun _ => false
noncomputable def rd_R04_Sort_35_6 : List U → Rt
  | [.l v0, .i v1, .i v2, .l v3] =>
    (.test (decide (v2 > (0 : Int)))
    (.test (inR (w64 (v2 - (1 : Int))) (ln v3))
    (.test (decide (Int.toNat (w64 (v2 - (1 : Int))) < List.length v3))
    (.test (inR v1 (ln v0))
    (let r0 : Rs := (Rt.res (m_R02_Compare [U.l (cL (el v3 (w64 (v2 - (1 : Int)))) 0), U.l (cL (el v0 v1) 0)]))
    (.test (ok r0 0)
    (.test (decide (uI (out r0 0) 0 > (0 : Int)))
    (.next [.l v0, .i v1, .i (w64 (v2 - (1 : Int))), .l v3])
    (.stop 0 [.l v0, .i v1, .i v2, .l v3]))
    .fail))
    .fail)
    .fail)
    .fail)
    (.stop 0 [.l v0, .i v1, .i v2, .l v3]))
  | _ => .fail
def sp_R04_Sort_35_6 : LSp := ⟨51, ⟨[(0, .one (.l 26)), (3, .one (.all 0)), (4, .one (.i .i64)), (5, .one (.i .i64))], [.arr 26 true]⟩, [(.exit 2, ⟨[(0, .one (.l 26)), (3, .one (.all 0)), (4, .one (.i .i64)), (5, .one (.i .i64))], [.arr 26 true]⟩)]⟩
set_option maxRecDepth 100000 in
theorem rq_R04_Sort_35_6 (v0 : List (List PV)) (v1 : Int) (v2 : Int) (v3 : List (List PV)) : runK br Tryd.prog (callK br Tryd.prog X134 M_R04_Sort L_R04_Sort (lsT []) 40) M_R04_Sort (lsT [] 35 0) 40 0 (L_R04_Sort 35) (bodyOf Tryd.prog 35 6) (sp_R04_Sort_35_6.s.ts sp_R04_Sort_35_6.n [.l v0, .i v1, .i v2, .l v3]) (sp_R04_Sort_35_6.s.h [.l v0, .i v1, .i v2, .l v3]) (idc Tryd.prog 0 (L_R04_Sort 35) 6) =
    (rd_R04_Sort_35_6 [.l v0, .i v1, .i v2, .l v3]).go br (fun us' => some (.normal, sp_R04_Sort_35_6.s.ts sp_R04_Sort_35_6.n us', sp_R04_Sort_35_6.s.h us')) sp_R04_Sort_35_6.fin := by
  rw [← callF_eq, ← runF_eq]; kernel_rfl
theorem lo_R04_Sort_35_6 {R : Type} : LoopTells Tryd.prog X134 M_R04_Sort L_R04_Sort 0 (L_R04_Sort 35) (bodyOf Tryd.prog 35 6) (gL (R := R) sp_R04_Sort_35_6 rd_R04_Sort_35_6 br) :=
  loopTold (callK_ev (loopsOK_list rids noneIn) 40) (lsokIn (loopsOK_list rids noneIn) 35 0 6) (by kernel_rfl) sp_R04_Sort_35_6 rd_R04_Sort_35_6 rfl (by kernel_rfl) (by
    intro us v h; unfold rd_R04_Sort_35_6 at h; split at h
    · rename_i v0 v1 v2 v3; exact rq_R04_Sort_35_6 v0 v1 v2 v3
    · cases h)
noncomputable abbrev ll_R04_Sort_35_6 {R : Type} : List (Nat × Nat × Nat × Smy R) := (35, 0, 6, gL sp_R04_Sort_35_6 rd_R04_Sort_35_6 br) :: []
theorem lk_R04_Sort_35_6 {R : Type} : ∀ e ∈ ll_R04_Sort_35_6 (R := R), LoopTells Tryd.prog X134 M_R04_Sort L_R04_Sort e.2.1 (L_R04_Sort e.1) (bodyOf Tryd.prog e.1 e.2.2.1) e.2.2.2 := List.forall_mem_cons.2 ⟨lo_R04_Sort_35_6, noneIn⟩
noncomputable def rd_R04_Sort_35_3 : List U → Rt
  | [.l v0, .i v1, .l v2] =>
    (.test (decide (v1 < ln v0))
    (let r0 : Rs := (lres rd_R04_Sort_35_6 [U.l v0, U.i v1, U.i (ln v2), U.l v2])
    (.test (ok r0 0)
    (.test (decide ((0 : Int) ≤ (0 : Int) ∧ (0 : Int) ≤ uI (out r0 0) 2 ∧ uI (out r0 0) 2 ≤ ln (uL (out r0 0) 3)))
    (.test (decide (0 + (Int.toNat (uI (out r0 0) 2) - 0) ≤ List.length (uL (out r0 0) 3)))
    (.test (decide ((0 + List.length (List.take (Int.toNat (uI (out r0 0) 2) - 0) (List.drop 0 (uL (out r0 0) 3)))) * 24 ≤ 140737488355328))
    (.test (inR (uI (out r0 0) 1) (ln (uL (out r0 0) 0)))
    (.test (decide ((List.length ([] ++ List.take (Int.toNat (uI (out r0 0) 2) - 0) (List.drop 0 (uL (out r0 0) 3))) + 1) * 24 ≤ 140737488355328))
    (.test (decide ((0 : Int) ≤ uI (out r0 0) 2 ∧ uI (out r0 0) 2 ≤ ln (uL (out r0 0) 3) ∧ ln (uL (out r0 0) 3) ≤ ln (uL (out r0 0) 3)))
    (.test (decide (Int.toNat (uI (out r0 0) 2) + (Int.toNat (ln (uL (out r0 0) 3)) - Int.toNat (uI (out r0 0) 2)) ≤ List.length (uL (out r0 0) 3)))
    (.test (decide ((List.length ([] ++ List.take (Int.toNat (uI (out r0 0) 2) - 0) (List.drop 0 (uL (out r0 0) 3)) ++ [[PV.lst 34 (cL (el (uL (out r0 0) 0) (uI (out r0 0) 1)) 0)]]) + List.length (List.take (Int.toNat (ln (uL (out r0 0) 3)) - Int.toNat (uI (out r0 0) 2)) (List.drop (Int.toNat (uI (out r0 0) 2)) (uL (out r0 0) 3)))) * 24 ≤ 140737488355328))
    (.next [.l (uL (out r0 0) 0), .i (w64 (uI (out r0 0) 1 + (1 : Int))), .l ([] ++ List.take (Int.toNat (uI (out r0 0) 2) - 0) (List.drop 0 (uL (out r0 0) 3)) ++ [[PV.lst 34 (cL (el (uL (out r0 0) 0) (uI (out r0 0) 1)) 0)]] ++ List.take (Int.toNat (ln (uL (out r0 0) 3)) - Int.toNat (uI (out r0 0) 2)) (List.drop (Int.toNat (uI (out r0 0) 2)) (uL (out r0 0) 3)))])
    .fail)
    .fail)
    .fail)
    .fail)
    .fail)
    .fail)
    .fail)
    .fail)
    .fail))
    (.stop 0 [.l v2]))
  | _ => .fail
def sp_R04_Sort_35_3 : LSp := ⟨51, ⟨[(0, .one (.l 26)), (3, .one (.all 0)), (4, .one (.i .i64))], [.arr 26 true]⟩, [(.exit 0, ⟨[(3, .one (.all 0))], [.arr 26 true]⟩)]⟩
set_option maxRecDepth 100000 in
theorem rq_R04_Sort_35_3 (v0 : List (List PV)) (v1 : Int) (v2 : List (List PV)) : runK br Tryd.prog (callK br Tryd.prog X134 M_R04_Sort L_R04_Sort (lsT ll_R04_Sort_35_6) 40) M_R04_Sort (lsT ll_R04_Sort_35_6 35 0) 40 0 (L_R04_Sort 35) (bodyOf Tryd.prog 35 3) (sp_R04_Sort_35_3.s.ts sp_R04_Sort_35_3.n [.l v0, .i v1, .l v2]) (sp_R04_Sort_35_3.s.h [.l v0, .i v1, .l v2]) (idc Tryd.prog 0 (L_R04_Sort 35) 3) =
    (rd_R04_Sort_35_3 [.l v0, .i v1, .l v2]).go br (fun us' => some (.normal, sp_R04_Sort_35_3.s.ts sp_R04_Sort_35_3.n us', sp_R04_Sort_35_3.s.h us')) sp_R04_Sort_35_3.fin := by
  rw [← callF_eq, ← runF_eq]; kernel_rfl
theorem lo_R04_Sort_35_3 {R : Type} : LoopTells Tryd.prog X134 M_R04_Sort L_R04_Sort 0 (L_R04_Sort 35) (bodyOf Tryd.prog 35 3) (gL (R := R) sp_R04_Sort_35_3 rd_R04_Sort_35_3 br) :=
  loopTold (callK_ev (loopsOK_list rids lk_R04_Sort_35_6) 40) (lsokIn (loopsOK_list rids lk_R04_Sort_35_6) 35 0 3) (by kernel_rfl) sp_R04_Sort_35_3 rd_R04_Sort_35_3 rfl (by kernel_rfl) (by
    intro us v h; unfold rd_R04_Sort_35_3 at h; split at h
    · rename_i v0 v1 v2; exact rq_R04_Sort_35_3 v0 v1 v2
    · cases h)
noncomputable abbrev ll_R04_Sort_35_3 {R : Type} : List (Nat × Nat × Nat × Smy R) := (35, 0, 3, gL sp_R04_Sort_35_3 rd_R04_Sort_35_3 br) :: ll_R04_Sort_35_6
theorem lk_R04_Sort_35_3 {R : Type} : ∀ e ∈ ll_R04_Sort_35_3 (R := R), LoopTells Tryd.prog X134 M_R04_Sort L_R04_Sort e.2.1 (L_R04_Sort e.1) (bodyOf Tryd.prog e.1 e.2.2.1) e.2.2.2 := List.forall_mem_cons.2 ⟨lo_R04_Sort_35_3, lk_R04_Sort_35_6⟩
def S_R04_Sort : FSp := ⟨[.one (.l 26)], [], [], [([.one (.all 0)], [.arr 26 true])]⟩
noncomputable def m_R04_Sort : List U → Rt
  | [.l v0] =>
    (let r0 : Rs := (lres rd_R04_Sort_35_3 [U.l v0, U.i (0 : Int), U.l []])
    (.test (ok r0 0)
    (.stop 0 [.l (uL (out r0 0) 0)])
    .fail))
  | _ => .fail
set_option maxRecDepth 100000 in
theorem q_R04_Sort (v0 : List (List PV)) : callK br Tryd.prog X134 M_R04_Sort L_R04_Sort (lsT ll_R04_Sort_35_3) 60 35 (encs [.l v0] 0 S_R04_Sort.ap) (encH [.l v0] (ws S_R04_Sort.ap) S_R04_Sort.ah) (fun y => fixR Tryd.prog S_R04_Sort.plan S_R04_Sort.ah.length y) =
    (m_R04_Sort [.l v0]).go br (fun _ => none) S_R04_Sort.fin := by
  rw [← callF_eq]; kernel_rfl
theorem e_R04_Sort : EOK Tryd.prog 35 (gF S_R04_Sort m_R04_Sort) :=
  eokTold mixed named x134 (loopsOK_list rids lk_R04_Sort_35_3) 60 S_R04_Sort m_R04_Sort (by
    intro us v h; unfold m_R04_Sort at h; split at h
    · rename_i v0; exact q_R04_Sort v0
    · cases h) false
noncomputable abbrev X135 : Ext := extT [(35, (gF S_R04_Sort m_R04_Sort))] X134
theorem x135 : XOK Tryd.prog X135 := xok1 x134 e_R04_Sort

/-- levee/leveeref04.Same -/
def L_R04_Same : FuncId → Nat → Option (List Nat) := liveT [(34, 4, [0, 1, 5]), (34, 1000004, []), (34, 2000004, [4])]
def M_R04_Same : FuncId → Bool := fun _ => false
noncomputable def rd_R04_Same_34_4 : List U → Rt
  | [.l v0, .l v1, .i v2] =>
    (.test (decide (v2 < ln v0))
    (.test (inR v2 (ln v0))
    (.test (inR v2 (ln v1))
    (let r0 : Rs := (Rt.res (m_R02_Compare [U.l (cL (el v0 v2) 0), U.l (cL (el v1 v2) 0)]))
    (.test (ok r0 0)
    (.test (uI (out r0 0) 0 != (0 : Int))
    (.stop 0 [.b false])
    (.next [.l v0, .l v1, .i (w64 (v2 + (1 : Int)))]))
    .fail))
    .fail)
    .fail)
    (.stop 1 []))
  | _ => .fail
def sp_R04_Same_34_4 : LSp := ⟨27, ⟨[(0, .one (.l 26)), (1, .one (.l 26)), (5, .one (.i .i64))], []⟩, [(.ret, ⟨[(4, .one (.b))], []⟩), (.exit 0, ⟨[], []⟩)]⟩
set_option maxRecDepth 100000 in
theorem rq_R04_Same_34_4 (v0 : List (List PV)) (v1 : List (List PV)) (v2 : Int) : runK br Tryd.prog (callK br Tryd.prog X135 M_R04_Same L_R04_Same (lsT []) 40) M_R04_Same (lsT [] 34 0) 40 0 (L_R04_Same 34) (bodyOf Tryd.prog 34 4) (sp_R04_Same_34_4.s.ts sp_R04_Same_34_4.n [.l v0, .l v1, .i v2]) (sp_R04_Same_34_4.s.h [.l v0, .l v1, .i v2]) (idc Tryd.prog 0 (L_R04_Same 34) 4) =
    (rd_R04_Same_34_4 [.l v0, .l v1, .i v2]).go br (fun us' => some (.normal, sp_R04_Same_34_4.s.ts sp_R04_Same_34_4.n us', sp_R04_Same_34_4.s.h us')) sp_R04_Same_34_4.fin := by
  rw [← callF_eq, ← runF_eq]; kernel_rfl
theorem lo_R04_Same_34_4 {R : Type} : LoopTells Tryd.prog X135 M_R04_Same L_R04_Same 0 (L_R04_Same 34) (bodyOf Tryd.prog 34 4) (gL (R := R) sp_R04_Same_34_4 rd_R04_Same_34_4 br) :=
  loopTold (callK_ev (loopsOK_list rids noneIn) 40) (lsokIn (loopsOK_list rids noneIn) 34 0 4) (by kernel_rfl) sp_R04_Same_34_4 rd_R04_Same_34_4 rfl (by kernel_rfl) (by
    intro us v h; unfold rd_R04_Same_34_4 at h; split at h
    · rename_i v0 v1 v2; exact rq_R04_Same_34_4 v0 v1 v2
    · cases h)
noncomputable abbrev ll_R04_Same_34_4 {R : Type} : List (Nat × Nat × Nat × Smy R) := (34, 0, 4, gL sp_R04_Same_34_4 rd_R04_Same_34_4 br) :: []
theorem lk_R04_Same_34_4 {R : Type} : ∀ e ∈ ll_R04_Same_34_4 (R := R), LoopTells Tryd.prog X135 M_R04_Same L_R04_Same e.2.1 (L_R04_Same e.1) (bodyOf Tryd.prog e.1 e.2.2.1) e.2.2.2 := List.forall_mem_cons.2 ⟨lo_R04_Same_34_4, noneIn⟩
def S_R04_Same : FSp := ⟨[.one (.l 26), .one (.l 26)], [], [], [([.one (.b)], [])]⟩
noncomputable def m_R04_Same : List U → Rt
  | [.l v0, .l v1] =>
    (.test (ln v0 != ln v1)
    (.stop 0 [.b false])
    (let r0 : Rs := (lres rd_R04_Same_34_4 [U.l v0, U.l v1, U.i (0 : Int)])
    (.test (ok r0 0)
    (.stop 0 [.b (uB (out r0 0) 0)])
    (.test (ok r0 1)
    (.stop 0 [.b true])
    .fail))))
  | _ => .fail
set_option maxRecDepth 100000 in
theorem q_R04_Same (v0 : List (List PV)) (v1 : List (List PV)) : callK br Tryd.prog X135 M_R04_Same L_R04_Same (lsT ll_R04_Same_34_4) 60 34 (encs [.l v0, .l v1] 0 S_R04_Same.ap) (encH [.l v0, .l v1] (ws S_R04_Same.ap) S_R04_Same.ah) (fun y => fixR Tryd.prog S_R04_Same.plan S_R04_Same.ah.length y) =
    (m_R04_Same [.l v0, .l v1]).go br (fun _ => none) S_R04_Same.fin := by
  rw [← callF_eq]; kernel_rfl
theorem e_R04_Same : EOK Tryd.prog 34 (gF S_R04_Same m_R04_Same) :=
  eokTold mixed named x135 (loopsOK_list rids lk_R04_Same_34_4) 60 S_R04_Same m_R04_Same (by
    intro us v h; unfold m_R04_Same at h; split at h
    · rename_i v0 v1; exact q_R04_Same v0 v1
    · cases h) false
noncomputable abbrev X136 : Ext := extT [(34, (gF S_R04_Same m_R04_Same))] X135
theorem x136 : XOK Tryd.prog X136 := xok1 x135 e_R04_Same

/-- levee/leveelaw05.BagBack -/
def L_L05_BagBack : FuncId → Nat → Option (List Nat) := liveT [(9, 4, [0, 1, 5]), (9, 1000004, [0, 1]), (9, 2000004, [4])]
def M_L05_BagBack : FuncId → Bool := fun _ => false
noncomputable def rd_L05_BagBack_9_4 : List U → Rt
  | [.l v0, .l v1, .i v2] =>
    (.test (decide (v2 < w64 (ln v0 + ln v1)))
    (.test (decide (v2 < ln v0))
    (.test (inR v2 (ln v0))
    (let r0 : Rs := (Rt.res (m_R04_May [U.l (cL (el v0 v2) 0)]))
    (.test (ok r0 0)
    (.test (!uB (out r0 0) 0)
    (.stop 0 [.b true])
    (.test (decide (v2 ≥ ln v0))
    (.test (inR (w64 (v2 - ln v0)) (ln v1))
    (let r1 : Rs := (Rt.res (m_R04_May [U.l (cL (el v1 (w64 (v2 - ln v0))) 0)]))
    (.test (ok r1 0)
    (.test (!uB (out r1 0) 0)
    (.stop 0 [.b true])
    (.next [.l v0, .l v1, .i (w64 (v2 + (1 : Int)))]))
    .fail))
    .fail)
    (.next [.l v0, .l v1, .i (w64 (v2 + (1 : Int)))])))
    .fail))
    .fail)
    (.test (decide (v2 ≥ ln v0))
    (.test (inR (w64 (v2 - ln v0)) (ln v1))
    (let r2 : Rs := (Rt.res (m_R04_May [U.l (cL (el v1 (w64 (v2 - ln v0))) 0)]))
    (.test (ok r2 0)
    (.test (!uB (out r2 0) 0)
    (.stop 0 [.b true])
    (.next [.l v0, .l v1, .i (w64 (v2 + (1 : Int)))]))
    .fail))
    .fail)
    (.next [.l v0, .l v1, .i (w64 (v2 + (1 : Int)))])))
    (.stop 1 [.l v0, .l v1]))
  | _ => .fail
def sp_L05_BagBack_9_4 : LSp := ⟨87, ⟨[(0, .one (.l 26)), (1, .one (.l 26)), (5, .one (.i .i64))], []⟩, [(.ret, ⟨[(4, .one (.b))], []⟩), (.exit 0, ⟨[(0, .one (.l 26)), (1, .one (.l 26))], []⟩)]⟩
set_option maxRecDepth 100000 in
theorem rq_L05_BagBack_9_4 (v0 : List (List PV)) (v1 : List (List PV)) (v2 : Int) : runK br Tryd.prog (callK br Tryd.prog X136 M_L05_BagBack L_L05_BagBack (lsT []) 40) M_L05_BagBack (lsT [] 9 0) 40 0 (L_L05_BagBack 9) (bodyOf Tryd.prog 9 4) (sp_L05_BagBack_9_4.s.ts sp_L05_BagBack_9_4.n [.l v0, .l v1, .i v2]) (sp_L05_BagBack_9_4.s.h [.l v0, .l v1, .i v2]) (idc Tryd.prog 0 (L_L05_BagBack 9) 4) =
    (rd_L05_BagBack_9_4 [.l v0, .l v1, .i v2]).go br (fun us' => some (.normal, sp_L05_BagBack_9_4.s.ts sp_L05_BagBack_9_4.n us', sp_L05_BagBack_9_4.s.h us')) sp_L05_BagBack_9_4.fin := by
  rw [← callF_eq, ← runF_eq]; kernel_rfl
theorem lo_L05_BagBack_9_4 {R : Type} : LoopTells Tryd.prog X136 M_L05_BagBack L_L05_BagBack 0 (L_L05_BagBack 9) (bodyOf Tryd.prog 9 4) (gL (R := R) sp_L05_BagBack_9_4 rd_L05_BagBack_9_4 br) :=
  loopTold (callK_ev (loopsOK_list rids noneIn) 40) (lsokIn (loopsOK_list rids noneIn) 9 0 4) (by kernel_rfl) sp_L05_BagBack_9_4 rd_L05_BagBack_9_4 rfl (by kernel_rfl) (by
    intro us v h; unfold rd_L05_BagBack_9_4 at h; split at h
    · rename_i v0 v1 v2; exact rq_L05_BagBack_9_4 v0 v1 v2
    · cases h)
noncomputable abbrev ll_L05_BagBack_9_4 {R : Type} : List (Nat × Nat × Nat × Smy R) := (9, 0, 4, gL sp_L05_BagBack_9_4 rd_L05_BagBack_9_4 br) :: []
theorem lk_L05_BagBack_9_4 {R : Type} : ∀ e ∈ ll_L05_BagBack_9_4 (R := R), LoopTells Tryd.prog X136 M_L05_BagBack L_L05_BagBack e.2.1 (L_L05_BagBack e.1) (bodyOf Tryd.prog e.1 e.2.2.1) e.2.2.2 := List.forall_mem_cons.2 ⟨lo_L05_BagBack_9_4, noneIn⟩
def S_L05_BagBack : FSp := ⟨[.one (.l 26), .one (.l 26)], [], [], [([.one (.b)], [])]⟩
noncomputable def m_L05_BagBack : List U → Rt
  | [.l v0, .l v1] =>
    (let r0 : Rs := (Rt.res (m_L05_fixed []))
    (.test (ok r0 0)
    (.test (!uB (out r0 0) 0)
    (let r1 : Rs := (Rt.res (m_L05_fixed []))
    (.test (ok r1 0)
    (.stop 0 [.b (uB (out r1 0) 0)])
    .fail))
    (let r2 : Rs := (Rt.res (m_R04_Short [U.l v0]))
    (.test (ok r2 0)
    (.test (!uB (out r2 0) 0)
    (let r3 : Rs := (Rt.res (m_L05_fixed []))
    (.test (ok r3 0)
    (.stop 0 [.b (uB (out r3 0) 0)])
    .fail))
    (let r4 : Rs := (Rt.res (m_R04_Short [U.l v1]))
    (.test (ok r4 0)
    (.test (!uB (out r4 0) 0)
    (let r5 : Rs := (Rt.res (m_L05_fixed []))
    (.test (ok r5 0)
    (.stop 0 [.b (uB (out r5 0) 0)])
    .fail))
    (let r6 : Rs := (lres rd_L05_BagBack_9_4 [U.l v0, U.l v1, U.i (0 : Int)])
    (.test (ok r6 0)
    (.stop 0 [.b (uB (out r6 0) 0)])
    (.test (ok r6 1)
    (let r7 : Rs := (Rt.res (m_bag_Of [U.l (uL (out r6 1) 0)]))
    (.test (ok r7 0)
    (let r8 : Rs := (Rt.res (m_bag_Rows [U.l (uL (out r7 0) 0)]))
    (.test (ok r8 0)
    (.test (uB (out r8 0) 0)
    (let r9 : Rs := (Rt.res (m_R04_Sort [U.l (uL (out r6 1) 0)]))
    (.test (ok r9 0)
    (let r10 : Rs := (Rt.res (m_R04_Same [U.l (uL (out r8 0) 1), U.l (uL (out r9 0) 0)]))
    (.test (ok r10 0)
    (.test (uB (out r10 0) 0)
    (.test (decide ((0 + List.length (uL (out r6 1) 0)) * 24 ≤ 140737488355328))
    (.test (decide ((List.length ([] ++ uL (out r6 1) 0) + List.length (uL (out r6 1) 1)) * 24 ≤ 140737488355328))
    (let r11 : Rs := (Rt.res (m_bag_Of [U.l ([] ++ uL (out r6 1) 0 ++ uL (out r6 1) 1)]))
    (.test (ok r11 0)
    (let r12 : Rs := (Rt.res (m_bag_Of [U.l (uL (out r6 1) 0)]))
    (.test (ok r12 0)
    (let r13 : Rs := (Rt.res (m_bag_Of [U.l (uL (out r6 1) 1)]))
    (.test (ok r13 0)
    (let r14 : Rs := (Rt.res (m_bag_Plus [U.l [[PV.lst 58 (uL (out r12 0) 0)], [PV.lst 58 (uL (out r13 0) 0)]]]))
    (.test (ok r14 0)
    (let r15 : Rs := (Rt.res (m_R05_Same [U.l (uL (out r11 0) 0), U.l (uL (out r14 0) 0)]))
    (.test (ok r15 0)
    (.stop 0 [.b (uB (out r15 0) 0)])
    .fail))
    .fail))
    .fail))
    .fail))
    .fail))
    .fail)
    .fail)
    (.stop 0 [.b false]))
    .fail))
    .fail))
    (.stop 0 [.b false]))
    .fail))
    .fail))
    .fail))))
    .fail)))
    .fail)))
    .fail))
  | _ => .fail
set_option maxRecDepth 100000 in
theorem q_L05_BagBack (v0 : List (List PV)) (v1 : List (List PV)) : callK br Tryd.prog X136 M_L05_BagBack L_L05_BagBack (lsT ll_L05_BagBack_9_4) 60 9 (encs [.l v0, .l v1] 0 S_L05_BagBack.ap) (encH [.l v0, .l v1] (ws S_L05_BagBack.ap) S_L05_BagBack.ah) (fun y => fixR Tryd.prog S_L05_BagBack.plan S_L05_BagBack.ah.length y) =
    (m_L05_BagBack [.l v0, .l v1]).go br (fun _ => none) S_L05_BagBack.fin := by
  rw [← callF_eq]; kernel_rfl
theorem e_L05_BagBack : EOK Tryd.prog 9 (gF S_L05_BagBack m_L05_BagBack) :=
  eokTold mixed named x136 (loopsOK_list rids lk_L05_BagBack_9_4) 60 S_L05_BagBack m_L05_BagBack (by
    intro us v h; unfold m_L05_BagBack at h; split at h
    · rename_i v0 v1; exact q_L05_BagBack v0 v1
    · cases h) false
noncomputable abbrev X137 : Ext := extT [(9, (gF S_L05_BagBack m_L05_BagBack))] X136
theorem x137 : XOK Tryd.prog X137 := xok1 x136 e_L05_BagBack

/-- levee/leveelaw05.BagGets -/
def L_L05_BagGets : FuncId → Nat → Option (List Nat) := liveT []
def M_L05_BagGets : FuncId → Bool := fun _ => false
def S_L05_BagGets : FSp := ⟨[.one (.l 58), .one (.l 34), .one (.l 34)], [], [], [([.one (.b)], [])]⟩
noncomputable def m_L05_BagGets : List U → Rt
  | [.l v0, .l v1, .l v2] =>
    (let r0 : Rs := (Rt.res (m_L05_fixed []))
    (.test (ok r0 0)
    (.test (!uB (out r0 0) 0)
    (let r1 : Rs := (Rt.res (m_L05_fixed []))
    (.test (ok r1 0)
    (.stop 0 [.b (uB (out r1 0) 0)])
    .fail))
    (let r2 : Rs := (Rt.res (m_L05_low [U.l v0]))
    (.test (ok r2 0)
    (.test (!uB (out r2 0) 0)
    (let r3 : Rs := (Rt.res (m_L05_fixed []))
    (.test (ok r3 0)
    (.stop 0 [.b (uB (out r3 0) 0)])
    .fail))
    (let r4 : Rs := (Rt.res (m_R04_May [U.l v1]))
    (.test (ok r4 0)
    (.test (!uB (out r4 0) 0)
    (let r5 : Rs := (Rt.res (m_L05_fixed []))
    (.test (ok r5 0)
    (.stop 0 [.b (uB (out r5 0) 0)])
    .fail))
    (let r6 : Rs := (Rt.res (m_R04_May [U.l v2]))
    (.test (ok r6 0)
    (.test (!uB (out r6 0) 0)
    (let r7 : Rs := (Rt.res (m_L05_fixed []))
    (.test (ok r7 0)
    (.stop 0 [.b (uB (out r7 0) 0)])
    .fail))
    (let r8 : Rs := (Rt.res (m_bag_Of [U.l [[PV.lst 34 v1]]]))
    (.test (ok r8 0)
    (let r9 : Rs := (Rt.res (m_bag_Plus [U.l [[PV.lst 58 v0], [PV.lst 58 (uL (out r8 0) 0)]]]))
    (.test (ok r9 0)
    (let r10 : Rs := (Rt.res (m_bag_Of [U.l [[PV.lst 34 v1]]]))
    (.test (ok r10 0)
    (let r11 : Rs := (Rt.res (m_bag_Text [U.l (uL (out r10 0) 0)]))
    (.test (ok r11 0)
    (let r12 : Rs := (Rt.res (m_bag_Of [U.l [[PV.lst 34 v2]]]))
    (.test (ok r12 0)
    (let r13 : Rs := (Rt.res (m_bag_Text [U.l (uL (out r12 0) 0)]))
    (.test (ok r13 0)
    (.test (ByteArray.toList (uS (out r11 0) 0) == ByteArray.toList (uS (out r13 0) 0))
    (let r14 : Rs := (Rt.res (m_bag_Get [U.l (uL (out r9 0) 0), U.l v2]))
    (.test (ok r14 0)
    (let r15 : Rs := (Rt.res (m_bag_Get [U.l v0, U.l v2]))
    (.test (ok r15 0)
    (.stop 0 [.b (uI (out r14 0) 0 == w64 (uI (out r15 0) 0 + (1 : Int)))])
    .fail))
    .fail))
    (let r16 : Rs := (Rt.res (m_bag_Get [U.l (uL (out r9 0) 0), U.l v2]))
    (.test (ok r16 0)
    (let r17 : Rs := (Rt.res (m_bag_Get [U.l v0, U.l v2]))
    (.test (ok r17 0)
    (.stop 0 [.b (uI (out r16 0) 0 == w64 (uI (out r17 0) 0 + (0 : Int)))])
    .fail))
    .fail)))
    .fail))
    .fail))
    .fail))
    .fail))
    .fail))
    .fail)))
    .fail)))
    .fail)))
    .fail)))
    .fail))
  | _ => .fail
set_option maxRecDepth 100000 in
theorem q_L05_BagGets (v0 : List (List PV)) (v1 : List (List PV)) (v2 : List (List PV)) : callK br Tryd.prog X137 M_L05_BagGets L_L05_BagGets (lsT []) 60 10 (encs [.l v0, .l v1, .l v2] 0 S_L05_BagGets.ap) (encH [.l v0, .l v1, .l v2] (ws S_L05_BagGets.ap) S_L05_BagGets.ah) (fun y => fixR Tryd.prog S_L05_BagGets.plan S_L05_BagGets.ah.length y) =
    (m_L05_BagGets [.l v0, .l v1, .l v2]).go br (fun _ => none) S_L05_BagGets.fin := by
  rw [← callF_eq]; kernel_rfl
theorem e_L05_BagGets : EOK Tryd.prog 10 (gF S_L05_BagGets m_L05_BagGets) :=
  eokTold mixed named x137 (loopsOK_list rids noneIn) 60 S_L05_BagGets m_L05_BagGets (by
    intro us v h; unfold m_L05_BagGets at h; split at h
    · rename_i v0 v1 v2; exact q_L05_BagGets v0 v1 v2
    · cases h) false
noncomputable abbrev X138 : Ext := extT [(10, (gF S_L05_BagGets m_L05_BagGets))] X137
theorem x138 : XOK Tryd.prog X138 := xok1 x137 e_L05_BagGets

/-- levee/leveelaw05.BagTexts -/
def L_L05_BagTexts : FuncId → Nat → Option (List Nat) := liveT []
def M_L05_BagTexts : FuncId → Bool := fun _ => false
def S_L05_BagTexts : FSp := ⟨[.one (.l 58), .one (.l 58)], [], [], [([.one (.b)], [])]⟩
noncomputable def m_L05_BagTexts : List U → Rt
  | [.l v0, .l v1] =>
    (let r0 : Rs := (Rt.res (m_L05_fixed []))
    (.test (ok r0 0)
    (.test (!uB (out r0 0) 0)
    (let r1 : Rs := (Rt.res (m_L05_fixed []))
    (.test (ok r1 0)
    (.stop 0 [.b (uB (out r1 0) 0)])
    .fail))
    (let r2 : Rs := (Rt.res (m_R05_Small [U.l v0]))
    (.test (ok r2 0)
    (.test (!uB (out r2 0) 0)
    (let r3 : Rs := (Rt.res (m_L05_fixed []))
    (.test (ok r3 0)
    (.stop 0 [.b (uB (out r3 0) 0)])
    .fail))
    (let r4 : Rs := (Rt.res (m_R05_Small [U.l v1]))
    (.test (ok r4 0)
    (.test (!uB (out r4 0) 0)
    (let r5 : Rs := (Rt.res (m_L05_fixed []))
    (.test (ok r5 0)
    (.stop 0 [.b (uB (out r5 0) 0)])
    .fail))
    (let r6 : Rs := (Rt.res (m_R05_May [U.l v0]))
    (.test (ok r6 0)
    (.test (!uB (out r6 0) 0)
    (let r7 : Rs := (Rt.res (m_L05_fixed []))
    (.test (ok r7 0)
    (.stop 0 [.b (uB (out r7 0) 0)])
    .fail))
    (let r8 : Rs := (Rt.res (m_R05_May [U.l v1]))
    (.test (ok r8 0)
    (.test (!uB (out r8 0) 0)
    (let r9 : Rs := (Rt.res (m_L05_fixed []))
    (.test (ok r9 0)
    (.stop 0 [.b (uB (out r9 0) 0)])
    .fail))
    (let r10 : Rs := (Rt.res (m_bag_Text [U.l v0]))
    (.test (ok r10 0)
    (let r11 : Rs := (Rt.res (m_bag_Text [U.l v1]))
    (.test (ok r11 0)
    (let r12 : Rs := (Rt.res (m_R05_Same [U.l v0, U.l v1]))
    (.test (ok r12 0)
    (.stop 0 [.b ((ByteArray.toList (uS (out r10 0) 0) == ByteArray.toList (uS (out r11 0) 0)) == uB (out r12 0) 0)])
    .fail))
    .fail))
    .fail)))
    .fail)))
    .fail)))
    .fail)))
    .fail)))
    .fail))
  | _ => .fail
set_option maxRecDepth 100000 in
theorem q_L05_BagTexts (v0 : List (List PV)) (v1 : List (List PV)) : callK br Tryd.prog X138 M_L05_BagTexts L_L05_BagTexts (lsT []) 60 11 (encs [.l v0, .l v1] 0 S_L05_BagTexts.ap) (encH [.l v0, .l v1] (ws S_L05_BagTexts.ap) S_L05_BagTexts.ah) (fun y => fixR Tryd.prog S_L05_BagTexts.plan S_L05_BagTexts.ah.length y) =
    (m_L05_BagTexts [.l v0, .l v1]).go br (fun _ => none) S_L05_BagTexts.fin := by
  rw [← callF_eq]; kernel_rfl
theorem e_L05_BagTexts : EOK Tryd.prog 11 (gF S_L05_BagTexts m_L05_BagTexts) :=
  eokTold mixed named x138 (loopsOK_list rids noneIn) 60 S_L05_BagTexts m_L05_BagTexts (by
    intro us v h; unfold m_L05_BagTexts at h; split at h
    · rename_i v0 v1; exact q_L05_BagTexts v0 v1
    · cases h) false
noncomputable abbrev X139 : Ext := extT [(11, (gF S_L05_BagTexts m_L05_BagTexts))] X138
theorem x139 : XOK Tryd.prog X139 := xok1 x138 e_L05_BagTexts

/-- levee/leveelaw05.BagMany -/
def L_L05_BagMany : FuncId → Nat → Option (List Nat) := liveT []
def M_L05_BagMany : FuncId → Bool := fun _ => false
def S_L05_BagMany : FSp := ⟨[.one (.i .i64), .one (.i .i64)], [], [], [([.one (.b)], [])]⟩
noncomputable def m_L05_BagMany : List U → Rt
  | [.i v0, .i v1] =>
    (let r0 : Rs := (Rt.res (m_L05_fixed []))
    (.test (ok r0 0)
    (.test (!uB (out r0 0) 0)
    (let r1 : Rs := (Rt.res (m_L05_fixed []))
    (.test (ok r1 0)
    (.stop 0 [.b (uB (out r1 0) 0)])
    .fail))
    (.test (decide (v1 < (1 : Int)))
    (let r2 : Rs := (Rt.res (m_L05_fixed []))
    (.test (ok r2 0)
    (.stop 0 [.b (uB (out r2 0) 0)])
    .fail))
    (.test (decide (v1 > (3000 : Int)))
    (let r3 : Rs := (Rt.res (m_L05_fixed []))
    (.test (ok r3 0)
    (.stop 0 [.b (uB (out r3 0) 0)])
    .fail))
    (let r4 : Rs := (Rt.res (m_bag_Rows [U.l [[PV.lst 34 [[pI (2 : Int), pI v0, pS { data := #[] }]], pI v1]]]))
    (.test (ok r4 0)
    (.test (uB (out r4 0) 0)
    (.test (ln (uL (out r4 0) 1) == v1)
    (let r5 : Rs := (Rt.res (m_bag_Of [U.l (uL (out r4 0) 1)]))
    (.test (ok r5 0)
    (let r6 : Rs := (Rt.res (m_R05_Same [U.l (uL (out r5 0) 0), U.l [[PV.lst 34 [[pI (2 : Int), pI v0, pS { data := #[] }]], pI v1]]]))
    (.test (ok r6 0)
    (.test (uB (out r6 0) 0)
    (let r7 : Rs := (Rt.res (m_bag_Plus [U.l [[PV.lst 58 [[PV.lst 34 [[pI (2 : Int), pI v0, pS { data := #[] }]], pI v1]]], [PV.lst 58 [[PV.lst 34 [[pI (2 : Int), pI v0, pS { data := #[] }]], pI v1]]], [PV.lst 58 [[PV.lst 34 [[pI (2 : Int), pI v0, pS { data := #[] }]], pI v1]]]]]))
    (.test (ok r7 0)
    (let r8 : Rs := (Rt.res (m_bag_Get [U.l (uL (out r7 0) 0), U.l [[pI (2 : Int), pI v0, pS { data := #[] }]]]))
    (.test (ok r8 0)
    (.stop 0 [.b (uI (out r8 0) 0 == w64 ((3 : Int) * v1))])
    .fail))
    .fail))
    (.stop 0 [.b false]))
    .fail))
    .fail))
    (.stop 0 [.b false]))
    (.stop 0 [.b false]))
    .fail)))))
    .fail))
  | _ => .fail
set_option maxRecDepth 100000 in
theorem q_L05_BagMany (v0 : Int) (v1 : Int) : callK br Tryd.prog X139 M_L05_BagMany L_L05_BagMany (lsT []) 60 12 (encs [.i v0, .i v1] 0 S_L05_BagMany.ap) (encH [.i v0, .i v1] (ws S_L05_BagMany.ap) S_L05_BagMany.ah) (fun y => fixR Tryd.prog S_L05_BagMany.plan S_L05_BagMany.ah.length y) =
    (m_L05_BagMany [.i v0, .i v1]).go br (fun _ => none) S_L05_BagMany.fin := by
  rw [← callF_eq]; kernel_rfl
theorem e_L05_BagMany : EOK Tryd.prog 12 (gF S_L05_BagMany m_L05_BagMany) :=
  eokTold mixed named x139 (loopsOK_list rids noneIn) 60 S_L05_BagMany m_L05_BagMany (by
    intro us v h; unfold m_L05_BagMany at h; split at h
    · rename_i v0 v1; exact q_L05_BagMany v0 v1
    · cases h) false
noncomputable abbrev X140 : Ext := extT [(12, (gF S_L05_BagMany m_L05_BagMany))] X139
theorem x140 : XOK Tryd.prog X140 := xok1 x139 e_L05_BagMany

end Go.Proofs.YthmljoalohpafaaDoor






