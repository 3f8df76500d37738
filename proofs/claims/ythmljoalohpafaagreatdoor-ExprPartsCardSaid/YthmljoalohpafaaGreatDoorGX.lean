/- Texts of this seat, one behind the other. -/
import Derived.Test.YthmljoalohpafaaGreatDoorKX
set_option linter.unusedVariables false
namespace Go.Proofs.YthmljoalohpafaaGreatDoor
open Go Go.Pu

/-- levee/leveeref01.Int -/
def L_R01_Int : FuncId → Nat → Option (List Nat) := liveT []
def M_R01_Int : FuncId → Bool := fun _ => false
def S_R01_Int : FSp := ⟨[.one (.i .i64)], [], [], [([.agg [.i .i64, .i .i64, .s]], [])]⟩
noncomputable def m_R01_Int : List U → Rt
  | [.i v0] =>
    (.stop 0 [.i ((2 : Int)), .i v0, .s ({ data := #[] })])
  | _ => .fail
set_option maxRecDepth 100000 in
theorem q_R01_Int (v0 : Int) : callK br Tryz.prog XD M_R01_Int L_R01_Int (lsT []) 60 27 (encs [.i v0] 0 S_R01_Int.ap) (encH [.i v0] (ws S_R01_Int.ap) S_R01_Int.ah) (fun y => fixR Tryz.prog S_R01_Int.plan S_R01_Int.ah.length y) =
    (m_R01_Int [.i v0]).go br (fun _ => none) S_R01_Int.fin := by
  rw [← callF_eq]; kernel_rfl
theorem e_R01_Int : EOK Tryz.prog 27 (gI S_R01_Int m_R01_Int) :=
  eokTold mixed named xD (loopsOK_list rids noneIn) 60 S_R01_Int m_R01_Int (by
    intro us v h; unfold m_R01_Int at h; split at h
    · rename_i v0; exact q_R01_Int v0
    · cases h) true
noncomputable abbrev X1 : Ext := extT [(27, (gI S_R01_Int m_R01_Int))] XD
theorem x1 : XOK Tryz.prog X1 := xok1 xD e_R01_Int

/-- levee/leveelaw03.low -/
def L_L03_low : FuncId → Nat → Option (List Nat) := liveT []
def M_L03_low : FuncId → Bool := fun _ => false
def S_L03_low : FSp := ⟨[], [], [], [([.one (.all 0)], [.arr 36 true])]⟩
noncomputable def m_L03_low : List U → Rt
  | [] =>
    (.stop 0 [.l ([[pI (0 : Int), pI (0 : Int), pI (0 : Int), pI (0 : Int), pS { data := #[] }], [pI (1 : Int), pI (0 : Int), pI (2 : Int), pI (1 : Int), pS { data := #[] }], [pI (2 : Int), pI (0 : Int), pI (0 : Int), pI (0 : Int), pS { data := #[] }], [pI (1 : Int), pI (0 : Int), pI (2 : Int), pI (5 : Int), pS { data := #[] }], [pI (6 : Int), pI (0 : Int), pI (0 : Int), pI (0 : Int), pS { data := #[] }]])])
  | _ => .fail
set_option maxRecDepth 100000 in
theorem q_L03_low : callK br Tryz.prog X1 M_L03_low L_L03_low (lsT []) 60 26 (encs [] 0 S_L03_low.ap) (encH [] (ws S_L03_low.ap) S_L03_low.ah) (fun y => fixR Tryz.prog S_L03_low.plan S_L03_low.ah.length y) =
    (m_L03_low []).go br (fun _ => none) S_L03_low.fin := by
  rw [← callF_eq]; kernel_rfl
theorem e_L03_low : EOK Tryz.prog 26 (gI S_L03_low m_L03_low) :=
  eokTold mixed named x1 (loopsOK_list rids noneIn) 60 S_L03_low m_L03_low (by
    intro us v h; unfold m_L03_low at h; split at h
    · exact q_L03_low
    · cases h) true
noncomputable abbrev X2 : Ext := extT [(26, (gI S_L03_low m_L03_low))] X1
theorem x2 : XOK Tryz.prog X2 := xok1 x1 e_L03_low

/-- levee/expr.takes -/
def L_expr_takes : FuncId → Nat → Option (List Nat) := liveT []
def M_expr_takes : FuncId → Bool := fun _ => false
def S_expr_takes : FSp := ⟨[.one (.i .i64)], [], [], [([.one (.i .i64)], [])]⟩
noncomputable def m_expr_takes : List U → Rt
  | [.i v0] =>
    (.test (v0 == (0 : Int))
    (.stop 0 [.i ((0 : Int))])
    (.test (v0 == (1 : Int))
    (.stop 0 [.i ((0 : Int))])
    (.test (v0 == (9 : Int))
    (.stop 0 [.i ((1 : Int))])
    (.test (v0 == (10 : Int))
    (.stop 0 [.i ((1 : Int))])
    (.test (v0 == (2 : Int))
    (.stop 0 [.i ((2 : Int))])
    (.test (v0 == (3 : Int))
    (.stop 0 [.i ((2 : Int))])
    (.test (v0 == (4 : Int))
    (.stop 0 [.i ((2 : Int))])
    (.test (v0 == (5 : Int))
    (.stop 0 [.i ((2 : Int))])
    (.test (v0 == (6 : Int))
    (.stop 0 [.i ((2 : Int))])
    (.test (v0 == (7 : Int))
    (.stop 0 [.i ((2 : Int))])
    (.test (v0 == (8 : Int))
    (.stop 0 [.i ((2 : Int))])
    (.stop 0 [.i ((-1 : Int))]))))))))))))
  | _ => .fail
set_option maxRecDepth 100000 in
theorem q_expr_takes (v0 : Int) : callK br Tryz.prog X2 M_expr_takes L_expr_takes (lsT []) 60 62 (encs [.i v0] 0 S_expr_takes.ap) (encH [.i v0] (ws S_expr_takes.ap) S_expr_takes.ah) (fun y => fixR Tryz.prog S_expr_takes.plan S_expr_takes.ah.length y) =
    (m_expr_takes [.i v0]).go br (fun _ => none) S_expr_takes.fin := by
  rw [← callF_eq]; kernel_rfl
theorem e_expr_takes : EOK Tryz.prog 62 (gF S_expr_takes m_expr_takes) :=
  eokTold mixed named x2 (loopsOK_list rids noneIn) 60 S_expr_takes m_expr_takes (by
    intro us v h; unfold m_expr_takes at h; split at h
    · rename_i v0; exact q_expr_takes v0
    · cases h) false
noncomputable abbrev X3 : Ext := extT [(62, (gF S_expr_takes m_expr_takes))] X2
theorem x3 : XOK Tryz.prog X3 := xok1 x2 e_expr_takes

/-- levee/value.May -/
def L_value_May : FuncId → Nat → Option (List Nat) := liveT []
def M_value_May : FuncId → Bool := fun _ => false
def S_value_May : FSp := ⟨[.agg [.i .i64, .i .i64, .s]], [], [], [([.one (.b)], [])]⟩
noncomputable def m_value_May : List U → Rt
  | [.i v0, .i v1, .s v2] =>
    (.test (v0 == (0 : Int))
    (.stop 0 [.b (v0 == (0 : Int) && (v1 == (0 : Int) && (ByteArray.toList v2 == [] && true)))])
    (.test (v0 == (1 : Int))
    (.test (v1 == (0 : Int))
    (.stop 0 [.b (ByteArray.toList v2 == [])])
    (.test (v1 == (1 : Int))
    (.stop 0 [.b (ByteArray.toList v2 == [])])
    (.stop 0 [.b false])))
    (.test (v0 == (2 : Int))
    (.stop 0 [.b (ByteArray.toList v2 == [])])
    (.test (v0 == (3 : Int))
    (.test (v1 == (0 : Int))
    (.stop 0 [.b (decide ((↑(ByteArray.size v2) : Int) ≤ (1000 : Int)))])
    (.stop 0 [.b false]))
    (.stop 0 [.b false])))))
  | _ => .fail
set_option maxRecDepth 100000 in
theorem q_value_May (v0 : Int) (v1 : Int) (v2 : ByteArray) : callK br Tryz.prog X3 M_value_May L_value_May (lsT []) 60 65 (encs [.i v0, .i v1, .s v2] 0 S_value_May.ap) (encH [.i v0, .i v1, .s v2] (ws S_value_May.ap) S_value_May.ah) (fun y => fixR Tryz.prog S_value_May.plan S_value_May.ah.length y) =
    (m_value_May [.i v0, .i v1, .s v2]).go br (fun _ => none) S_value_May.fin := by
  rw [← callF_eq]; kernel_rfl
theorem e_value_May : EOK Tryz.prog 65 (gF S_value_May m_value_May) :=
  eokTold mixed named x3 (loopsOK_list rids noneIn) 60 S_value_May m_value_May (by
    intro us v h; unfold m_value_May at h; split at h
    · rename_i v0 v1 v2; exact q_value_May v0 v1 v2
    · cases h) false
noncomputable abbrev X4 : Ext := extT [(65, (gF S_value_May m_value_May))] X3
theorem x4 : XOK Tryz.prog X4 := xok1 x3 e_value_May

/-- levee/expr.all -/
def L_expr_all : FuncId → Nat → Option (List Nat) := liveT [(97, 2, [0, 7, 8, 9]), (97, 1000002, []), (97, 2000002, [4])]
def M_expr_all : FuncId → Bool := fun _ => false
noncomputable def rd_expr_all_97_2 : List U → Rt
  | [.i v0, .l v1, .i v2, .i v3] =>
    (.test (decide (v3 < v2))
    (.test (inR v3 (ln v1))
    (.test (cI (el v1 v3) 0 != v0)
    (.test (cI (el v1 v3) 0 != (0 : Int))
    (.stop 0 [.b false])
    (.next [.i v0, .l v1, .i v2, .i (w64 (v3 + (1 : Int)))]))
    (.next [.i v0, .l v1, .i v2, .i (w64 (v3 + (1 : Int)))]))
    .fail)
    (.stop 1 []))
  | _ => .fail
def sp_expr_all_97_2 : LSp := ⟨21, ⟨[(0, .one (.i .i64)), (7, .one (.l 3)), (8, .one (.i .i64)), (9, .one (.i .i64))], []⟩, [(.ret, ⟨[(4, .one (.b))], []⟩), (.exit 0, ⟨[], []⟩)]⟩
set_option maxRecDepth 100000 in
theorem rq_expr_all_97_2 (v0 : Int) (v1 : List (List PV)) (v2 : Int) (v3 : Int) : runK br Tryz.prog (callK br Tryz.prog X4 M_expr_all L_expr_all (lsT []) 40) M_expr_all (lsT [] 97 0) 40 0 (L_expr_all 97) (bodyOf Tryz.prog 97 2) (sp_expr_all_97_2.s.ts sp_expr_all_97_2.n [.i v0, .l v1, .i v2, .i v3]) (sp_expr_all_97_2.s.h [.i v0, .l v1, .i v2, .i v3]) (idc Tryz.prog 0 (L_expr_all 97) 2) =
    (rd_expr_all_97_2 [.i v0, .l v1, .i v2, .i v3]).go br (fun us' => some (.normal, sp_expr_all_97_2.s.ts sp_expr_all_97_2.n us', sp_expr_all_97_2.s.h us')) sp_expr_all_97_2.fin := by
  rw [← callF_eq, ← runF_eq]; kernel_rfl
theorem lo_expr_all_97_2 {R : Type} : LoopTells Tryz.prog X4 M_expr_all L_expr_all 0 (L_expr_all 97) (bodyOf Tryz.prog 97 2) (gL (R := R) sp_expr_all_97_2 rd_expr_all_97_2 br) :=
  loopTold (callK_ev (loopsOK_list rids noneIn) 40) (lsokIn (loopsOK_list rids noneIn) 97 0 2) (by kernel_rfl) sp_expr_all_97_2 rd_expr_all_97_2 rfl (by kernel_rfl) (by
    intro us v h; unfold rd_expr_all_97_2 at h; split at h
    · rename_i v0 v1 v2 v3; exact rq_expr_all_97_2 v0 v1 v2 v3
    · cases h)
noncomputable abbrev ll_expr_all_97_2 {R : Type} : List (Nat × Nat × Nat × Smy R) := (97, 0, 2, gL sp_expr_all_97_2 rd_expr_all_97_2 br) :: []
theorem lk_expr_all_97_2 {R : Type} : ∀ e ∈ ll_expr_all_97_2 (R := R), LoopTells Tryz.prog X4 M_expr_all L_expr_all e.2.1 (L_expr_all e.1) (bodyOf Tryz.prog e.1 e.2.2.1) e.2.2.2 := List.forall_mem_cons.2 ⟨lo_expr_all_97_2, noneIn⟩
def S_expr_all : FSp := ⟨[.one (.i .i64), .one (.l 3)], [], [], [([.one (.b)], [])]⟩
noncomputable def m_expr_all : List U → Rt
  | [.i v0, .l v1] =>
    (let r0 : Rs := (lres rd_expr_all_97_2 [U.i v0, U.l v1, U.i (ln v1), U.i (0 : Int)])
    (.test (ok r0 0)
    (.stop 0 [.b (uB (out r0 0) 0)])
    (.test (ok r0 1)
    (.stop 0 [.b true])
    .fail)))
  | _ => .fail
set_option maxRecDepth 100000 in
theorem q_expr_all (v0 : Int) (v1 : List (List PV)) : callK br Tryz.prog X4 M_expr_all L_expr_all (lsT ll_expr_all_97_2) 60 97 (encs [.i v0, .l v1] 0 S_expr_all.ap) (encH [.i v0, .l v1] (ws S_expr_all.ap) S_expr_all.ah) (fun y => fixR Tryz.prog S_expr_all.plan S_expr_all.ah.length y) =
    (m_expr_all [.i v0, .l v1]).go br (fun _ => none) S_expr_all.fin := by
  rw [← callF_eq]; kernel_rfl
theorem e_expr_all : EOK Tryz.prog 97 (gF S_expr_all m_expr_all) :=
  eokTold mixed named x4 (loopsOK_list rids lk_expr_all_97_2) 60 S_expr_all m_expr_all (by
    intro us v h; unfold m_expr_all at h; split at h
    · rename_i v0 v1; exact q_expr_all v0 v1
    · cases h) false
noncomputable abbrev X5 : Ext := extT [(97, (gF S_expr_all m_expr_all))] X4
theorem x5 : XOK Tryz.prog X5 := xok1 x4 e_expr_all

/-- levee/expr.leaves -/
def L_expr_leaves : FuncId → Nat → Option (List Nat) := liveT []
def M_expr_leaves : FuncId → Bool := fun _ => false
def S_expr_leaves : FSp := ⟨[.one (.i .i64), .one (.l 3)], [], [], [([.one (.i .i64), .one (.b)], [])]⟩
noncomputable def m_expr_leaves : List U → Rt
  | [.i v0, .l v1] =>
    (.test (v0 == (2 : Int))
    (let r0 : Rs := (Rt.res (m_expr_all [U.i (2 : Int), U.l v1]))
    (.test (ok r0 0)
    (.stop 0 [.i ((2 : Int)), .b (uB (out r0 0) 0)])
    .fail))
    (.test (v0 == (3 : Int))
    (let r1 : Rs := (Rt.res (m_expr_all [U.i (2 : Int), U.l v1]))
    (.test (ok r1 0)
    (.stop 0 [.i ((2 : Int)), .b (uB (out r1 0) 0)])
    .fail))
    (.test (v0 == (4 : Int))
    (let r2 : Rs := (Rt.res (m_expr_all [U.i (2 : Int), U.l v1]))
    (.test (ok r2 0)
    (.stop 0 [.i ((2 : Int)), .b (uB (out r2 0) 0)])
    .fail))
    (.test (v0 == (5 : Int))
    (.test (inR (0 : Int) (ln v1))
    (.test (inR (1 : Int) (ln v1))
    (.test (cI (List.getD v1 0 []) 0 == cI (List.getD v1 1 []) 0)
    (.stop 0 [.i ((1 : Int)), .b true])
    (.test (inR (0 : Int) (ln v1))
    (.test (cI (List.getD v1 0 []) 0 == (0 : Int))
    (.stop 0 [.i ((1 : Int)), .b true])
    (.test (inR (1 : Int) (ln v1))
    (.stop 0 [.i ((1 : Int)), .b (cI (List.getD v1 1 []) 0 == (0 : Int))])
    .fail))
    .fail))
    .fail)
    .fail)
    (.test (v0 == (6 : Int))
    (.test (inR (0 : Int) (ln v1))
    (.test (inR (1 : Int) (ln v1))
    (.test (cI (List.getD v1 0 []) 0 == cI (List.getD v1 1 []) 0)
    (.stop 0 [.i ((1 : Int)), .b true])
    (.test (inR (0 : Int) (ln v1))
    (.test (cI (List.getD v1 0 []) 0 == (0 : Int))
    (.stop 0 [.i ((1 : Int)), .b true])
    (.test (inR (1 : Int) (ln v1))
    (.stop 0 [.i ((1 : Int)), .b (cI (List.getD v1 1 []) 0 == (0 : Int))])
    .fail))
    .fail))
    .fail)
    .fail)
    (.test (v0 == (7 : Int))
    (let r3 : Rs := (Rt.res (m_expr_all [U.i (1 : Int), U.l v1]))
    (.test (ok r3 0)
    (.stop 0 [.i ((1 : Int)), .b (uB (out r3 0) 0)])
    .fail))
    (.test (v0 == (8 : Int))
    (let r4 : Rs := (Rt.res (m_expr_all [U.i (1 : Int), U.l v1]))
    (.test (ok r4 0)
    (.stop 0 [.i ((1 : Int)), .b (uB (out r4 0) 0)])
    .fail))
    (.test (v0 == (9 : Int))
    (let r5 : Rs := (Rt.res (m_expr_all [U.i (1 : Int), U.l v1]))
    (.test (ok r5 0)
    (.stop 0 [.i ((1 : Int)), .b (uB (out r5 0) 0)])
    .fail))
    (.stop 0 [.i ((1 : Int)), .b true])))))))))
  | _ => .fail
set_option maxRecDepth 100000 in
theorem q_expr_leaves (v0 : Int) (v1 : List (List PV)) : callK br Tryz.prog X5 M_expr_leaves L_expr_leaves (lsT []) 60 66 (encs [.i v0, .l v1] 0 S_expr_leaves.ap) (encH [.i v0, .l v1] (ws S_expr_leaves.ap) S_expr_leaves.ah) (fun y => fixR Tryz.prog S_expr_leaves.plan S_expr_leaves.ah.length y) =
    (m_expr_leaves [.i v0, .l v1]).go br (fun _ => none) S_expr_leaves.fin := by
  rw [← callF_eq]; kernel_rfl
theorem e_expr_leaves : EOK Tryz.prog 66 (gF S_expr_leaves m_expr_leaves) :=
  eokTold mixed named x5 (loopsOK_list rids noneIn) 60 S_expr_leaves m_expr_leaves (by
    intro us v h; unfold m_expr_leaves at h; split at h
    · rename_i v0 v1; exact q_expr_leaves v0 v1
    · cases h) false
noncomputable abbrev X6 : Ext := extT [(66, (gF S_expr_leaves m_expr_leaves))] X5
theorem x6 : XOK Tryz.prog X6 := xok1 x5 e_expr_leaves

/-- levee/expr.Type -/
def L_expr_Type : FuncId → Nat → Option (List Nat) := liveT [(25, 6, [6, 21, 22, 23] ++ [1000007000006]), (25, 1000006, [6]), (25, 2000006, [4, 5]), (58, 3, [0, 3, 7000005, 10, 11] ++ [1500007000000]), (58, 1000003, [0, 3, 5]), (58, 2000003, [4])]
def M_expr_Type : FuncId → Bool := fun _ => false
noncomputable def rd_expr_Type_58_3 : List U → Rt
  | [.i v0, .i v1, .b v2, .l v3, .i v4, .i v5, .i v6, .i v7, .s v8, .l v9, .l v10] =>
    (.test (decide (v1 < v0))
    (.test (ln v10 == (0 : Int))
    (.test (decide ((List.length v9 + 1) * 8 ≤ 140737488355328))
    (.next [.i v0, .i (w64 (v1 + (1 : Int))), .b false, .l v3, .i v4, .i v5, .i v6, .i v7, .s v8, .l (v9 ++ [[pI (0 : Int)]]), .l v10])
    .fail)
    (.test (inR (w64 (ln v10 - (1 : Int))) (ln v10))
    (.test (decide (Int.toNat (w64 (ln v10 - (1 : Int))) < List.length v10))
    (.test (decide ((0 : Int) ≤ (0 : Int) ∧ (0 : Int) ≤ w64 (ln v10 - (1 : Int)) ∧ w64 (ln v10 - (1 : Int)) ≤ ln v10))
    (.test (decide ((List.length v9 + 1) * 8 ≤ 140737488355328))
    (.next [.i v0, .i (w64 (v1 + (1 : Int))), .b v2, .l v3, .i v4, .i v5, .i v6, .i v7, .s v8, .l (v9 ++ [[pI (cI (el v10 (w64 (ln v10 - (1 : Int)))) 0)]]), .l (List.take (Int.toNat (w64 (ln v10 - (1 : Int))) - 0) v10)])
    .fail)
    .fail)
    .fail)
    .fail))
    (.stop 0 [.b v2, .l v3, .i v4, .i v5, .i v6, .i v7, .s v8, .l v9, .l v10]))
  | _ => .fail
def sp_expr_Type_58_3 : LSp := ⟨112, ⟨[(0, .one (.ptr 0 0)), (3, .one (.ptr 2 0)), (5, .one (.all 3)), (10, .one (.i .i64)), (11, .one (.i .i64))], [.box 99 [.one (.all 4), .one (.b), .one (.l 3)], .dead, .box 36 [.one (.i .i64), .one (.i .i64), .one (.i .i64), .one (.i .i64), .one (.s)], .arr 3 true, .arr 3 true]⟩, [(.exit 0, ⟨[(0, .one (.ptr 0 0)), (3, .one (.ptr 2 0)), (5, .one (.all 3))], [.box 99 [.one (.all 4), .one (.b), .one (.l 3)], .dead, .box 36 [.one (.i .i64), .one (.i .i64), .one (.i .i64), .one (.i .i64), .one (.s)], .arr 3 true, .arr 3 true]⟩)]⟩
set_option maxRecDepth 100000 in
theorem rq_expr_Type_58_3 (v0 : Int) (v1 : Int) (v2 : Bool) (v3 : List (List PV)) (v4 : Int) (v5 : Int) (v6 : Int) (v7 : Int) (v8 : ByteArray) (v9 : List (List PV)) (v10 : List (List PV)) : runK br Tryz.prog (callK br Tryz.prog X6 M_expr_Type L_expr_Type (lsT []) 40) M_expr_Type (lsT [] 58 2) 40 2 (L_expr_Type 58) (bodyOf Tryz.prog 58 3) (sp_expr_Type_58_3.s.ts sp_expr_Type_58_3.n [.i v0, .i v1, .b v2, .l v3, .i v4, .i v5, .i v6, .i v7, .s v8, .l v9, .l v10]) (sp_expr_Type_58_3.s.h [.i v0, .i v1, .b v2, .l v3, .i v4, .i v5, .i v6, .i v7, .s v8, .l v9, .l v10]) (idc Tryz.prog 2 (L_expr_Type 58) 3) =
    (rd_expr_Type_58_3 [.i v0, .i v1, .b v2, .l v3, .i v4, .i v5, .i v6, .i v7, .s v8, .l v9, .l v10]).go br (fun us' => some (.normal, sp_expr_Type_58_3.s.ts sp_expr_Type_58_3.n us', sp_expr_Type_58_3.s.h us')) sp_expr_Type_58_3.fin := by
  rw [← callF_eq, ← runF_eq]; kernel_rfl
theorem lo_expr_Type_58_3 {R : Type} : LoopTells Tryz.prog X6 M_expr_Type L_expr_Type 2 (L_expr_Type 58) (bodyOf Tryz.prog 58 3) (gL (R := R) sp_expr_Type_58_3 rd_expr_Type_58_3 br) :=
  loopTold (callK_ev (loopsOK_list rids noneIn) 40) (lsokIn (loopsOK_list rids noneIn) 58 2 3) (by kernel_rfl) sp_expr_Type_58_3 rd_expr_Type_58_3 rfl (by kernel_rfl) (by
    intro us v h; unfold rd_expr_Type_58_3 at h; split at h
    · rename_i v0 v1 v2 v3 v4 v5 v6 v7 v8 v9 v10; exact rq_expr_Type_58_3 v0 v1 v2 v3 v4 v5 v6 v7 v8 v9 v10
    · cases h)
noncomputable abbrev ll_expr_Type_58_3 {R : Type} : List (Nat × Nat × Nat × Smy R) := (58, 2, 3, gL sp_expr_Type_58_3 rd_expr_Type_58_3 br) :: []
theorem lk_expr_Type_58_3 {R : Type} : ∀ e ∈ ll_expr_Type_58_3 (R := R), LoopTells Tryz.prog X6 M_expr_Type L_expr_Type e.2.1 (L_expr_Type e.1) (bodyOf Tryz.prog e.1 e.2.2.1) e.2.2.2 := List.forall_mem_cons.2 ⟨lo_expr_Type_58_3, noneIn⟩
noncomputable def rd_expr_Type_25_6 : List U → Rt
  | [.l v0, .i v1, .i v2, .b v3, .l v4, .l v5] =>
    (.test (decide (v2 < v1))
    (.test (inR v2 (ln v0))
    (let r0 : Rs := (Rt.res (m_expr_takes [U.i (cI (el v0 v2) 0)]))
    (.test (ok r0 0)
    (let r1 : Rs := (lres rd_expr_Type_58_3 [U.i (uI (out r0 0) 0), U.i (0 : Int), U.b v3, U.l v4, U.i (cI (el v0 v2) 0), U.i (cI (el v0 v2) 1), U.i (cI (el v0 v2) 2), U.i (cI (el v0 v2) 3), U.s (cS (el v0 v2) 4), U.l [], U.l v5])
    (.test (ok r1 0)
    (.test (!uB (out r1 0) 0)
    (.stop 0 [.i ((0 : Int)), .i ((30 : Int))])
    (let r2 : Rs := (Rt.res (m_expr_takes [U.i (uI (out r1 0) 2)]))
    (.test (ok r2 0)
    (.test (decide (uI (out r2 0) 0 < (0 : Int)))
    (.stop 0 [.i ((0 : Int)), .i ((30 : Int))])
    (.test (uI (out r1 0) 2 == (0 : Int))
    (.test (decide (uI (out r1 0) 3 < (0 : Int)))
    (.stop 0 [.i ((0 : Int)), .i ((30 : Int))])
    (.test (decide (uI (out r1 0) 3 ≥ ln (uL (out r1 0) 1)))
    (.stop 0 [.i ((0 : Int)), .i ((30 : Int))])
    (.test (inR (uI (out r1 0) 3) (ln (uL (out r1 0) 1)))
    (.test (decide (cI (el (uL (out r1 0) 1) (uI (out r1 0) 3)) 0 < (1 : Int)))
    (.stop 0 [.i ((0 : Int)), .i ((30 : Int))])
    (.test (inR (uI (out r1 0) 3) (ln (uL (out r1 0) 1)))
    (.test (decide (cI (el (uL (out r1 0) 1) (uI (out r1 0) 3)) 0 > (3 : Int)))
    (.stop 0 [.i ((0 : Int)), .i ((30 : Int))])
    (.test (inR (uI (out r1 0) 3) (ln (uL (out r1 0) 1)))
    (.test (decide ((List.length (uL (out r1 0) 8) + 1) * 8 ≤ 140737488355328))
    (.next [.l v0, .i v1, .i (w64 (v2 + (1 : Int))), .b (uB (out r1 0) 0), .l (uL (out r1 0) 1), .l (uL (out r1 0) 8 ++ [[pI (cI (el (uL (out r1 0) 1) (uI (out r1 0) 3)) 0)]])])
    .fail)
    .fail))
    .fail))
    .fail)))
    (.test (uI (out r1 0) 2 == (1 : Int))
    (.test (decide ((List.length (uL (out r1 0) 8) + 1) * 8 ≤ 140737488355328))
    (let r3 : Rs := (Rt.res (m_value_May [U.i (uI (out r1 0) 4), U.i (uI (out r1 0) 5), U.s (uS (out r1 0) 6)]))
    (.test (ok r3 0)
    (.test (!uB (out r3 0) 0)
    (.stop 0 [.i ((0 : Int)), .i ((30 : Int))])
    (.next [.l v0, .i v1, .i (w64 (v2 + (1 : Int))), .b (uB (out r1 0) 0), .l (uL (out r1 0) 1), .l (uL (out r1 0) 8 ++ [[pI (uI (out r1 0) 4)]])]))
    .fail))
    .fail)
    (let r4 : Rs := (Rt.res (m_expr_leaves [U.i (uI (out r1 0) 2), U.l (uL (out r1 0) 7)]))
    (.test (ok r4 0)
    (.test (decide ((List.length (uL (out r1 0) 8) + 1) * 8 ≤ 140737488355328))
    (.test (!uB (out r4 0) 1)
    (.stop 0 [.i ((0 : Int)), .i ((30 : Int))])
    (.next [.l v0, .i v1, .i (w64 (v2 + (1 : Int))), .b (uB (out r1 0) 0), .l (uL (out r1 0) 1), .l (uL (out r1 0) 8 ++ [[pI (uI (out r4 0) 0)]])]))
    .fail)
    .fail)))))
    .fail)))
    .fail))
    .fail))
    .fail)
    (.stop 1 [.b v3, .l v4, .l v5]))
  | _ => .fail
def sp_expr_Type_25_6 : LSp := ⟨41, ⟨[(6, .one (.ptr 0 0)), (21, .one (.l 36)), (22, .one (.i .i64)), (23, .one (.i .i64))], [.box 99 [.one (.all 1), .one (.b), .one (.l 3)], .arr 3 true]⟩, [(.ret, ⟨[(4, .one (.i .i64)), (5, .one (.i .i64))], []⟩), (.exit 0, ⟨[(6, .one (.ptr 0 0))], [.box 99 [.one (.all 1), .one (.b), .one (.l 3)], .arr 3 true]⟩)]⟩
set_option maxRecDepth 100000 in
theorem rq_expr_Type_25_6 (v0 : List (List PV)) (v1 : Int) (v2 : Int) (v3 : Bool) (v4 : List (List PV)) (v5 : List (List PV)) : runK br Tryz.prog (callK br Tryz.prog X6 M_expr_Type L_expr_Type (lsT ll_expr_Type_58_3) 40) M_expr_Type (lsT ll_expr_Type_58_3 25 0) 40 0 (L_expr_Type 25) (bodyOf Tryz.prog 25 6) (sp_expr_Type_25_6.s.ts sp_expr_Type_25_6.n [.l v0, .i v1, .i v2, .b v3, .l v4, .l v5]) (sp_expr_Type_25_6.s.h [.l v0, .i v1, .i v2, .b v3, .l v4, .l v5]) (idc Tryz.prog 0 (L_expr_Type 25) 6) =
    (rd_expr_Type_25_6 [.l v0, .i v1, .i v2, .b v3, .l v4, .l v5]).go br (fun us' => some (.normal, sp_expr_Type_25_6.s.ts sp_expr_Type_25_6.n us', sp_expr_Type_25_6.s.h us')) sp_expr_Type_25_6.fin := by
  rw [← callF_eq, ← runF_eq]; kernel_rfl
theorem lo_expr_Type_25_6 {R : Type} : LoopTells Tryz.prog X6 M_expr_Type L_expr_Type 0 (L_expr_Type 25) (bodyOf Tryz.prog 25 6) (gL (R := R) sp_expr_Type_25_6 rd_expr_Type_25_6 br) :=
  loopTold (callK_ev (loopsOK_list rids lk_expr_Type_58_3) 40) (lsokIn (loopsOK_list rids lk_expr_Type_58_3) 25 0 6) (by kernel_rfl) sp_expr_Type_25_6 rd_expr_Type_25_6 rfl (by kernel_rfl) (by
    intro us v h; unfold rd_expr_Type_25_6 at h; split at h
    · rename_i v0 v1 v2 v3 v4 v5; exact rq_expr_Type_25_6 v0 v1 v2 v3 v4 v5
    · cases h)
noncomputable abbrev ll_expr_Type_25_6 {R : Type} : List (Nat × Nat × Nat × Smy R) := (25, 0, 6, gL sp_expr_Type_25_6 rd_expr_Type_25_6 br) :: ll_expr_Type_58_3
theorem lk_expr_Type_25_6 {R : Type} : ∀ e ∈ ll_expr_Type_25_6 (R := R), LoopTells Tryz.prog X6 M_expr_Type L_expr_Type e.2.1 (L_expr_Type e.1) (bodyOf Tryz.prog e.1 e.2.2.1) e.2.2.2 := List.forall_mem_cons.2 ⟨lo_expr_Type_25_6, lk_expr_Type_58_3⟩
def S_expr_Type : FSp := ⟨[.one (.l 36), .one (.l 3)], [], [], [([.one (.i .i64), .one (.i .i64)], [])]⟩
noncomputable def m_expr_Type : List U → Rt
  | [.l v0, .l v1] =>
    (.test (decide (ln v0 > (100 : Int)))
    (.stop 0 [.i ((0 : Int)), .i ((1 : Int))])
    (let r0 : Rs := (lres rd_expr_Type_25_6 [U.l v0, U.i (ln v0), U.i (0 : Int), U.b true, U.l v1, U.l []])
    (.test (ok r0 0)
    (.stop 0 [.i (uI (out r0 0) 0), .i (uI (out r0 0) 1)])
    (.test (ok r0 1)
    (.test (!uB (out r0 1) 0)
    (.stop 0 [.i ((0 : Int)), .i ((30 : Int))])
    (.test (ln (uL (out r0 1) 2) != (1 : Int))
    (.stop 0 [.i ((0 : Int)), .i ((30 : Int))])
    (.test (inR (0 : Int) (ln (uL (out r0 1) 2)))
    (.test (decide (0 < List.length (uL (out r0 1) 2)))
    (.stop 0 [.i (cI (List.getD (uL (out r0 1) 2) 0 []) 0), .i ((0 : Int))])
    .fail)
    .fail)))
    .fail))))
  | _ => .fail
set_option maxRecDepth 100000 in
theorem q_expr_Type (v0 : List (List PV)) (v1 : List (List PV)) : callK br Tryz.prog X6 M_expr_Type L_expr_Type (lsT ll_expr_Type_25_6) 60 25 (encs [.l v0, .l v1] 0 S_expr_Type.ap) (encH [.l v0, .l v1] (ws S_expr_Type.ap) S_expr_Type.ah) (fun y => fixR Tryz.prog S_expr_Type.plan S_expr_Type.ah.length y) =
    (m_expr_Type [.l v0, .l v1]).go br (fun _ => none) S_expr_Type.fin := by
  rw [← callF_eq]; kernel_rfl
theorem e_expr_Type : EOK Tryz.prog 25 (gF S_expr_Type m_expr_Type) :=
  eokTold mixed named x6 (loopsOK_list rids lk_expr_Type_25_6) 60 S_expr_Type m_expr_Type (by
    intro us v h; unfold m_expr_Type at h; split at h
    · rename_i v0 v1; exact q_expr_Type v0 v1
    · cases h) false
noncomputable abbrev X7 : Ext := extT [(25, (gF S_expr_Type m_expr_Type))] X6
theorem x7 : XOK Tryz.prog X7 := xok1 x6 e_expr_Type

/-- levee/value.Add -/
def L_value_Add : FuncId → Nat → Option (List Nat) := liveT []
def M_value_Add : FuncId → Bool := fun _ => false
def S_value_Add : FSp := ⟨[.agg [.i .i64, .i .i64, .s], .agg [.i .i64, .i .i64, .s]], [], [], [([.agg [.i .i64, .i .i64, .s], .one (.b)], [])]⟩
noncomputable def m_value_Add : List U → Rt
  | [.i v0, .i v1, .s v2, .i v3, .i v4, .s v5] =>
    (.test (v0 == (0 : Int))
    (.stop 0 [.i ((0 : Int)), .i ((0 : Int)), .s ({ data := #[] }), .b true])
    (.test (v3 == (0 : Int))
    (.stop 0 [.i ((0 : Int)), .i ((0 : Int)), .s ({ data := #[] }), .b true])
    (.test (v0 != (2 : Int))
    (.stop 0 [.i ((0 : Int)), .i ((0 : Int)), .s ({ data := #[] }), .b false])
    (.test (v3 != (2 : Int))
    (.stop 0 [.i ((0 : Int)), .i ((0 : Int)), .s ({ data := #[] }), .b false])
    (.test (decide (w64 (v1 + v4) > v1) == decide (v4 > (0 : Int)))
    (.stop 0 [.i ((2 : Int)), .i (w64 (v1 + v4)), .s ({ data := #[] }), .b true])
    (.test (!v4 == (0 : Int))
    (.stop 0 [.i ((0 : Int)), .i ((0 : Int)), .s ({ data := #[] }), .b false])
    (.stop 0 [.i ((2 : Int)), .i (w64 (v1 + v4)), .s ({ data := #[] }), .b true])))))))
  | _ => .fail
set_option maxRecDepth 100000 in
theorem q_value_Add (v0 : Int) (v1 : Int) (v2 : ByteArray) (v3 : Int) (v4 : Int) (v5 : ByteArray) : callK br Tryz.prog X7 M_value_Add L_value_Add (lsT []) 60 98 (encs [.i v0, .i v1, .s v2, .i v3, .i v4, .s v5] 0 S_value_Add.ap) (encH [.i v0, .i v1, .s v2, .i v3, .i v4, .s v5] (ws S_value_Add.ap) S_value_Add.ah) (fun y => fixR Tryz.prog S_value_Add.plan S_value_Add.ah.length y) =
    (m_value_Add [.i v0, .i v1, .s v2, .i v3, .i v4, .s v5]).go br (fun _ => none) S_value_Add.fin := by
  rw [← callF_eq]; kernel_rfl
theorem e_value_Add : EOK Tryz.prog 98 (gF S_value_Add m_value_Add) :=
  eokTold mixed named x7 (loopsOK_list rids noneIn) 60 S_value_Add m_value_Add (by
    intro us v h; unfold m_value_Add at h; split at h
    · rename_i v0 v1 v2 v3 v4 v5; exact q_value_Add v0 v1 v2 v3 v4 v5
    · cases h) false
noncomputable abbrev X8 : Ext := extT [(98, (gF S_value_Add m_value_Add))] X7
theorem x8 : XOK Tryz.prog X8 := xok1 x7 e_value_Add

/-- levee/value.Sub -/
def L_value_Sub : FuncId → Nat → Option (List Nat) := liveT []
def M_value_Sub : FuncId → Bool := fun _ => false
def S_value_Sub : FSp := ⟨[.agg [.i .i64, .i .i64, .s], .agg [.i .i64, .i .i64, .s]], [], [], [([.agg [.i .i64, .i .i64, .s], .one (.b)], [])]⟩
noncomputable def m_value_Sub : List U → Rt
  | [.i v0, .i v1, .s v2, .i v3, .i v4, .s v5] =>
    (.test (v0 == (0 : Int))
    (.stop 0 [.i ((0 : Int)), .i ((0 : Int)), .s ({ data := #[] }), .b true])
    (.test (v3 == (0 : Int))
    (.stop 0 [.i ((0 : Int)), .i ((0 : Int)), .s ({ data := #[] }), .b true])
    (.test (v0 != (2 : Int))
    (.stop 0 [.i ((0 : Int)), .i ((0 : Int)), .s ({ data := #[] }), .b false])
    (.test (v3 != (2 : Int))
    (.stop 0 [.i ((0 : Int)), .i ((0 : Int)), .s ({ data := #[] }), .b false])
    (.test (decide (w64 (v1 - v4) < v1) == decide (v4 > (0 : Int)))
    (.stop 0 [.i ((2 : Int)), .i (w64 (v1 - v4)), .s ({ data := #[] }), .b true])
    (.test (!v4 == (0 : Int))
    (.stop 0 [.i ((0 : Int)), .i ((0 : Int)), .s ({ data := #[] }), .b false])
    (.stop 0 [.i ((2 : Int)), .i (w64 (v1 - v4)), .s ({ data := #[] }), .b true])))))))
  | _ => .fail
set_option maxRecDepth 100000 in
theorem q_value_Sub (v0 : Int) (v1 : Int) (v2 : ByteArray) (v3 : Int) (v4 : Int) (v5 : ByteArray) : callK br Tryz.prog X8 M_value_Sub L_value_Sub (lsT []) 60 99 (encs [.i v0, .i v1, .s v2, .i v3, .i v4, .s v5] 0 S_value_Sub.ap) (encH [.i v0, .i v1, .s v2, .i v3, .i v4, .s v5] (ws S_value_Sub.ap) S_value_Sub.ah) (fun y => fixR Tryz.prog S_value_Sub.plan S_value_Sub.ah.length y) =
    (m_value_Sub [.i v0, .i v1, .s v2, .i v3, .i v4, .s v5]).go br (fun _ => none) S_value_Sub.fin := by
  rw [← callF_eq]; kernel_rfl
theorem e_value_Sub : EOK Tryz.prog 99 (gF S_value_Sub m_value_Sub) :=
  eokTold mixed named x8 (loopsOK_list rids noneIn) 60 S_value_Sub m_value_Sub (by
    intro us v h; unfold m_value_Sub at h; split at h
    · rename_i v0 v1 v2 v3 v4 v5; exact q_value_Sub v0 v1 v2 v3 v4 v5
    · cases h) false
noncomputable abbrev X9 : Ext := extT [(99, (gF S_value_Sub m_value_Sub))] X8
theorem x9 : XOK Tryz.prog X9 := xok1 x8 e_value_Sub

/-- levee/value.amount -/
def L_value_amount : FuncId → Nat → Option (List Nat) := liveT []
def M_value_amount : FuncId → Bool := fun _ => false
def S_value_amount : FSp := ⟨[.one (.i .i64)], [], [], [([.one (.i .u64)], [])]⟩
noncomputable def m_value_amount : List U → Rt
  | [.i v0] =>
    (.test (decide (v0 < (0 : Int)))
    (.stop 0 [.i (IntKind.wrap IntKind.u64 ((0 : Int) - IntKind.wrap IntKind.u64 v0))])
    (.stop 0 [.i (IntKind.wrap IntKind.u64 v0)]))
  | _ => .fail
set_option maxRecDepth 100000 in
theorem q_value_amount (v0 : Int) : callK br Tryz.prog X9 M_value_amount L_value_amount (lsT []) 60 121 (encs [.i v0] 0 S_value_amount.ap) (encH [.i v0] (ws S_value_amount.ap) S_value_amount.ah) (fun y => fixR Tryz.prog S_value_amount.plan S_value_amount.ah.length y) =
    (m_value_amount [.i v0]).go br (fun _ => none) S_value_amount.fin := by
  rw [← callF_eq]; kernel_rfl
theorem e_value_amount : EOK Tryz.prog 121 (gF S_value_amount m_value_amount) :=
  eokTold mixed named x9 (loopsOK_list rids noneIn) 60 S_value_amount m_value_amount (by
    intro us v h; unfold m_value_amount at h; split at h
    · rename_i v0; exact q_value_amount v0
    · cases h) false
noncomputable abbrev X10 : Ext := extT [(121, (gF S_value_amount m_value_amount))] X9
theorem x10 : XOK Tryz.prog X10 := xok1 x9 e_value_amount

/-- levee/value.Mul -/
def L_value_Mul : FuncId → Nat → Option (List Nat) := liveT []
def M_value_Mul : FuncId → Bool := fun _ => false
def S_value_Mul : FSp := ⟨[.agg [.i .i64, .i .i64, .s], .agg [.i .i64, .i .i64, .s]], [], [], [([.agg [.i .i64, .i .i64, .s], .one (.b)], [])]⟩
noncomputable def m_value_Mul : List U → Rt
  | [.i v0, .i v1, .s v2, .i v3, .i v4, .s v5] =>
    (.test (v0 == (0 : Int))
    (.stop 0 [.i ((0 : Int)), .i ((0 : Int)), .s ({ data := #[] }), .b true])
    (.test (v3 == (0 : Int))
    (.stop 0 [.i ((0 : Int)), .i ((0 : Int)), .s ({ data := #[] }), .b true])
    (.test (v0 != (2 : Int))
    (.stop 0 [.i ((0 : Int)), .i ((0 : Int)), .s ({ data := #[] }), .b false])
    (.test (v3 != (2 : Int))
    (.stop 0 [.i ((0 : Int)), .i ((0 : Int)), .s ({ data := #[] }), .b false])
    (let r0 : Rs := (Rt.res (m_value_amount [U.i v1]))
    (.test (ok r0 0)
    (let r1 : Rs := (Rt.res (m_value_amount [U.i v4]))
    (.test (ok r1 0)
    (.test (inU64 (uI (out r0 0) 0) && inU64 (uI (out r1 0) 0))
    (.test (mulHi (uI (out r0 0) 0) (uI (out r1 0) 0) == (0 : Int))
    (.test (decide (mulLo (uI (out r0 0) 0) (uI (out r1 0) 0) < (9223372036854775808 : Int)))
    (.stop 0 [.i ((2 : Int)), .i (w64 (v1 * v4)), .s ({ data := #[] }), .b true])
    (.test (mulLo (uI (out r0 0) 0) (uI (out r1 0) 0) == (9223372036854775808 : Int))
    (.test (!!decide (v1 < (0 : Int)) == decide (v4 < (0 : Int)))
    (.stop 0 [.i ((0 : Int)), .i ((0 : Int)), .s ({ data := #[] }), .b false])
    (.stop 0 [.i ((2 : Int)), .i (w64 (v1 * v4)), .s ({ data := #[] }), .b true]))
    (.stop 0 [.i ((0 : Int)), .i ((0 : Int)), .s ({ data := #[] }), .b false])))
    (.stop 0 [.i ((0 : Int)), .i ((0 : Int)), .s ({ data := #[] }), .b false]))
    .fail)
    .fail))
    .fail))))))
  | _ => .fail
set_option maxRecDepth 100000 in
theorem q_value_Mul (v0 : Int) (v1 : Int) (v2 : ByteArray) (v3 : Int) (v4 : Int) (v5 : ByteArray) : callK br Tryz.prog X10 M_value_Mul L_value_Mul (lsT []) 60 100 (encs [.i v0, .i v1, .s v2, .i v3, .i v4, .s v5] 0 S_value_Mul.ap) (encH [.i v0, .i v1, .s v2, .i v3, .i v4, .s v5] (ws S_value_Mul.ap) S_value_Mul.ah) (fun y => fixR Tryz.prog S_value_Mul.plan S_value_Mul.ah.length y) =
    (m_value_Mul [.i v0, .i v1, .s v2, .i v3, .i v4, .s v5]).go br (fun _ => none) S_value_Mul.fin := by
  rw [← callF_eq]; kernel_rfl
theorem e_value_Mul : EOK Tryz.prog 100 (gF S_value_Mul m_value_Mul) :=
  eokTold mixed named x10 (loopsOK_list rids noneIn) 60 S_value_Mul m_value_Mul (by
    intro us v h; unfold m_value_Mul at h; split at h
    · rename_i v0 v1 v2 v3 v4 v5; exact q_value_Mul v0 v1 v2 v3 v4 v5
    · cases h) false
noncomputable abbrev X11 : Ext := extT [(100, (gF S_value_Mul m_value_Mul))] X10
theorem x11 : XOK Tryz.prog X11 := xok1 x10 e_value_Mul

/-- levee/value.Truth -/
def L_value_Truth : FuncId → Nat → Option (List Nat) := liveT []
def M_value_Truth : FuncId → Bool := fun _ => false
def S_value_Truth : FSp := ⟨[.one (.b)], [], [], [([.agg [.i .i64, .i .i64, .s]], [])]⟩
noncomputable def m_value_Truth : List U → Rt
  | [.b v0] =>
    (.test v0
    (.stop 0 [.i ((1 : Int)), .i ((1 : Int)), .s ({ data := #[] })])
    (.stop 0 [.i ((1 : Int)), .i ((0 : Int)), .s ({ data := #[] })]))
  | _ => .fail
set_option maxRecDepth 100000 in
theorem q_value_Truth (v0 : Bool) : callK br Tryz.prog X11 M_value_Truth L_value_Truth (lsT []) 60 60 (encs [.b v0] 0 S_value_Truth.ap) (encH [.b v0] (ws S_value_Truth.ap) S_value_Truth.ah) (fun y => fixR Tryz.prog S_value_Truth.plan S_value_Truth.ah.length y) =
    (m_value_Truth [.b v0]).go br (fun _ => none) S_value_Truth.fin := by
  rw [← callF_eq]; kernel_rfl
theorem e_value_Truth : EOK Tryz.prog 60 (gF S_value_Truth m_value_Truth) :=
  eokTold mixed named x11 (loopsOK_list rids noneIn) 60 S_value_Truth m_value_Truth (by
    intro us v h; unfold m_value_Truth at h; split at h
    · rename_i v0; exact q_value_Truth v0
    · cases h) false
noncomputable abbrev X12 : Ext := extT [(60, (gF S_value_Truth m_value_Truth))] X11
theorem x12 : XOK Tryz.prog X12 := xok1 x11 e_value_Truth

/-- slices.Index[[]levee/api.Value,levee/api.Value] -/
def L_slices_Index_ : FuncId → Nat → Option (List Nat) := liveT [(152, 2, [0, 3, 7, 8]), (152, 1000002, []), (152, 2000002, [4])]
def M_slices_Index_ : FuncId → Bool := fun _ => false
noncomputable def rd_slices_Index__152_2 : List U → Rt
  | [.l v0, .i v1, .i v2, .i v3, .i v4, .s v5] =>
    (.test (decide (v2 < v1))
    (.test (inR v2 (ln v0))
    (.test (v3 == cI (el v0 v2) 0 && (v4 == cI (el v0 v2) 1 && (ByteArray.toList v5 == ByteArray.toList (cS (el v0 v2) 2) && true)))
    (.stop 0 [.i v2])
    (.next [.l v0, .i v1, .i (w64 (v2 + (1 : Int))), .i v3, .i v4, .s v5]))
    .fail)
    (.stop 1 []))
  | _ => .fail
def sp_slices_Index__152_2 : LSp := ⟨19, ⟨[(0, .one (.l 31)), (3, .one (.ptr 0 0)), (7, .one (.i .i64)), (8, .one (.i .i64))], [.box 31 [.one (.i .i64), .one (.i .i64), .one (.s)]]⟩, [(.ret, ⟨[(4, .one (.i .i64))], []⟩), (.exit 0, ⟨[], []⟩)]⟩
set_option maxRecDepth 100000 in
theorem rq_slices_Index__152_2 (v0 : List (List PV)) (v1 : Int) (v2 : Int) (v3 : Int) (v4 : Int) (v5 : ByteArray) : runK br Tryz.prog (callK br Tryz.prog X12 M_slices_Index_ L_slices_Index_ (lsT []) 40) M_slices_Index_ (lsT [] 152 0) 40 0 (L_slices_Index_ 152) (bodyOf Tryz.prog 152 2) (sp_slices_Index__152_2.s.ts sp_slices_Index__152_2.n [.l v0, .i v1, .i v2, .i v3, .i v4, .s v5]) (sp_slices_Index__152_2.s.h [.l v0, .i v1, .i v2, .i v3, .i v4, .s v5]) (idc Tryz.prog 0 (L_slices_Index_ 152) 2) =
    (rd_slices_Index__152_2 [.l v0, .i v1, .i v2, .i v3, .i v4, .s v5]).go br (fun us' => some (.normal, sp_slices_Index__152_2.s.ts sp_slices_Index__152_2.n us', sp_slices_Index__152_2.s.h us')) sp_slices_Index__152_2.fin := by
  rw [← callF_eq, ← runF_eq]; kernel_rfl
theorem lo_slices_Index__152_2 {R : Type} : LoopTells Tryz.prog X12 M_slices_Index_ L_slices_Index_ 0 (L_slices_Index_ 152) (bodyOf Tryz.prog 152 2) (gL (R := R) sp_slices_Index__152_2 rd_slices_Index__152_2 br) :=
  loopTold (callK_ev (loopsOK_list rids noneIn) 40) (lsokIn (loopsOK_list rids noneIn) 152 0 2) (by kernel_rfl) sp_slices_Index__152_2 rd_slices_Index__152_2 rfl (by kernel_rfl) (by
    intro us v h; unfold rd_slices_Index__152_2 at h; split at h
    · rename_i v0 v1 v2 v3 v4 v5; exact rq_slices_Index__152_2 v0 v1 v2 v3 v4 v5
    · cases h)
noncomputable abbrev ll_slices_Index__152_2 {R : Type} : List (Nat × Nat × Nat × Smy R) := (152, 0, 2, gL sp_slices_Index__152_2 rd_slices_Index__152_2 br) :: []
theorem lk_slices_Index__152_2 {R : Type} : ∀ e ∈ ll_slices_Index__152_2 (R := R), LoopTells Tryz.prog X12 M_slices_Index_ L_slices_Index_ e.2.1 (L_slices_Index_ e.1) (bodyOf Tryz.prog e.1 e.2.2.1) e.2.2.2 := List.forall_mem_cons.2 ⟨lo_slices_Index__152_2, noneIn⟩
def S_slices_Index_ : FSp := ⟨[.one (.l 31), .agg [.i .i64, .i .i64, .s]], [], [], [([.one (.i .i64)], [])]⟩
noncomputable def m_slices_Index_ : List U → Rt
  | [.l v0, .i v1, .i v2, .s v3] =>
    (let r0 : Rs := (lres rd_slices_Index__152_2 [U.l v0, U.i (ln v0), U.i (0 : Int), U.i v1, U.i v2, U.s v3])
    (.test (ok r0 0)
    (.stop 0 [.i (uI (out r0 0) 0)])
    (.test (ok r0 1)
    (.stop 0 [.i ((-1 : Int))])
    .fail)))
  | _ => .fail
set_option maxRecDepth 100000 in
theorem q_slices_Index_ (v0 : List (List PV)) (v1 : Int) (v2 : Int) (v3 : ByteArray) : callK br Tryz.prog X12 M_slices_Index_ L_slices_Index_ (lsT ll_slices_Index__152_2) 60 152 (encs [.l v0, .i v1, .i v2, .s v3] 0 S_slices_Index_.ap) (encH [.l v0, .i v1, .i v2, .s v3] (ws S_slices_Index_.ap) S_slices_Index_.ah) (fun y => fixR Tryz.prog S_slices_Index_.plan S_slices_Index_.ah.length y) =
    (m_slices_Index_ [.l v0, .i v1, .i v2, .s v3]).go br (fun _ => none) S_slices_Index_.fin := by
  rw [← callF_eq]; kernel_rfl
theorem e_slices_Index_ : EOK Tryz.prog 152 (gF S_slices_Index_ m_slices_Index_) :=
  eokTold mixed named x12 (loopsOK_list rids lk_slices_Index__152_2) 60 S_slices_Index_ m_slices_Index_ (by
    intro us v h; unfold m_slices_Index_ at h; split at h
    · rename_i v0 v1 v2 v3; exact q_slices_Index_ v0 v1 v2 v3
    · cases h) false
noncomputable abbrev X13 : Ext := extT [(152, (gF S_slices_Index_ m_slices_Index_))] X12
theorem x13 : XOK Tryz.prog X13 := xok1 x12 e_slices_Index_

/-- slices.Contains[[]levee/api.Value,levee/api.Value] -/
def L_slices_Contains_ : FuncId → Nat → Option (List Nat) := liveT []
def M_slices_Contains_ : FuncId → Bool := fun _ => false
def S_slices_Contains_ : FSp := ⟨[.one (.l 31), .agg [.i .i64, .i .i64, .s]], [], [], [([.one (.b)], [])]⟩
noncomputable def m_slices_Contains_ : List U → Rt
  | [.l v0, .i v1, .i v2, .s v3] =>
    (let r0 : Rs := (Rt.res (m_slices_Index_ [U.l v0, U.i v1, U.i v2, U.s v3]))
    (.test (ok r0 0)
    (.stop 0 [.b (decide (uI (out r0 0) 0 ≥ (0 : Int)))])
    .fail))
  | _ => .fail
set_option maxRecDepth 100000 in
theorem q_slices_Contains_ (v0 : List (List PV)) (v1 : Int) (v2 : Int) (v3 : ByteArray) : callK br Tryz.prog X13 M_slices_Contains_ L_slices_Contains_ (lsT []) 60 137 (encs [.l v0, .i v1, .i v2, .s v3] 0 S_slices_Contains_.ap) (encH [.l v0, .i v1, .i v2, .s v3] (ws S_slices_Contains_.ap) S_slices_Contains_.ah) (fun y => fixR Tryz.prog S_slices_Contains_.plan S_slices_Contains_.ah.length y) =
    (m_slices_Contains_ [.l v0, .i v1, .i v2, .s v3]).go br (fun _ => none) S_slices_Contains_.fin := by
  rw [← callF_eq]; kernel_rfl
theorem e_slices_Contains_ : EOK Tryz.prog 137 (gF S_slices_Contains_ m_slices_Contains_) :=
  eokTold mixed named x13 (loopsOK_list rids noneIn) 60 S_slices_Contains_ m_slices_Contains_ (by
    intro us v h; unfold m_slices_Contains_ at h; split at h
    · rename_i v0 v1 v2 v3; exact q_slices_Contains_ v0 v1 v2 v3
    · cases h) false
noncomputable abbrev X14 : Ext := extT [(137, (gF S_slices_Contains_ m_slices_Contains_))] X13
theorem x14 : XOK Tryz.prog X14 := xok1 x13 e_slices_Contains_

/-- levee/value.fold -/
def L_value_fold : FuncId → Nat → Option (List Nat) := liveT [(153, 2, [0, 1, 7, 8]), (153, 1000002, []), (153, 2000002, [4])]
def M_value_fold : FuncId → Bool := fun _ => false
noncomputable def rd_value_fold_153_2 : List U → Rt
  | [.l v0, .i v1, .i v2, .i v3, .i v4, .s v5] =>
    (.test (decide (v2 < v1))
    (.test (inR v2 (ln v0))
    (.test (!(cI (el v0 v2) 0 == v3 && (cI (el v0 v2) 1 == v4 && (ByteArray.toList (cS (el v0 v2) 2) == ByteArray.toList v5 && true))))
    (.stop 0 [.i v2, .i v3, .i v4, .s v5])
    (.next [.l v0, .i v1, .i (w64 (v2 + (1 : Int))), .i v3, .i v4, .s v5]))
    .fail)
    (.stop 1 [.i v3, .i v4, .s v5]))
  | _ => .fail
def sp_value_fold_153_2 : LSp := ⟨19, ⟨[(0, .one (.l 31)), (1, .fn 139 [.ptr 0 0]), (7, .one (.i .i64)), (8, .one (.i .i64))], [.box 31 [.one (.i .i64), .one (.i .i64), .one (.s)]]⟩, [(.ret, ⟨[(4, .one (.i .i64))], [.box 31 [.one (.i .i64), .one (.i .i64), .one (.s)]]⟩), (.exit 0, ⟨[], [.box 31 [.one (.i .i64), .one (.i .i64), .one (.s)]]⟩)]⟩
set_option maxRecDepth 100000 in
theorem rq_value_fold_153_2 (v0 : List (List PV)) (v1 : Int) (v2 : Int) (v3 : Int) (v4 : Int) (v5 : ByteArray) : runK br Tryz.prog (callK br Tryz.prog X14 M_value_fold L_value_fold (lsT []) 40) M_value_fold (lsT [] 153 1) 40 1 (L_value_fold 153) (bodyOf Tryz.prog 153 2) (sp_value_fold_153_2.s.ts sp_value_fold_153_2.n [.l v0, .i v1, .i v2, .i v3, .i v4, .s v5]) (sp_value_fold_153_2.s.h [.l v0, .i v1, .i v2, .i v3, .i v4, .s v5]) (idc Tryz.prog 1 (L_value_fold 153) 2) =
    (rd_value_fold_153_2 [.l v0, .i v1, .i v2, .i v3, .i v4, .s v5]).go br (fun us' => some (.normal, sp_value_fold_153_2.s.ts sp_value_fold_153_2.n us', sp_value_fold_153_2.s.h us')) sp_value_fold_153_2.fin := by
  rw [← callF_eq, ← runF_eq]; kernel_rfl
theorem lo_value_fold_153_2 {R : Type} : LoopTells Tryz.prog X14 M_value_fold L_value_fold 1 (L_value_fold 153) (bodyOf Tryz.prog 153 2) (gL (R := R) sp_value_fold_153_2 rd_value_fold_153_2 br) :=
  loopTold (callK_ev (loopsOK_list rids noneIn) 40) (lsokIn (loopsOK_list rids noneIn) 153 1 2) (by kernel_rfl) sp_value_fold_153_2 rd_value_fold_153_2 rfl (by kernel_rfl) (by
    intro us v h; unfold rd_value_fold_153_2 at h; split at h
    · rename_i v0 v1 v2 v3 v4 v5; exact rq_value_fold_153_2 v0 v1 v2 v3 v4 v5
    · cases h)
noncomputable abbrev ll_value_fold_153_2 {R : Type} : List (Nat × Nat × Nat × Smy R) := (153, 1, 2, gL sp_value_fold_153_2 rd_value_fold_153_2 br) :: []
theorem lk_value_fold_153_2 {R : Type} : ∀ e ∈ ll_value_fold_153_2 (R := R), LoopTells Tryz.prog X14 M_value_fold L_value_fold e.2.1 (L_value_fold e.1) (bodyOf Tryz.prog e.1 e.2.2.1) e.2.2.2 := List.forall_mem_cons.2 ⟨lo_value_fold_153_2, noneIn⟩
def S_value_fold : FSp := ⟨[.one (.b), .one (.l 31)], [], [], [([.agg [.i .i64, .i .i64, .s]], [])]⟩
noncomputable def m_value_fold : List U → Rt
  | [.b v0, .l v1] =>
    (let r0 : Rs := (Rt.res (m_value_Truth [U.b v0]))
    (.test (ok r0 0)
    (let r1 : Rs := (Rt.res (m_value_Truth [U.b !v0]))
    (.test (ok r1 0)
    (let r2 : Rs := (Rt.res (m_slices_Contains_ [U.l v1, U.i (uI (out r0 0) 0), U.i (uI (out r0 0) 1), U.s (uS (out r0 0) 2)]))
    (.test (ok r2 0)
    (.test (uB (out r2 0) 0)
    (.stop 0 [.i (uI (out r0 0) 0), .i (uI (out r0 0) 1), .s (uS (out r0 0) 2)])
    (let r3 : Rs := (lres rd_value_fold_153_2 [U.l v1, U.i (ln v1), U.i (0 : Int), U.i (uI (out r1 0) 0), U.i (uI (out r1 0) 1), U.s (uS (out r1 0) 2)])
    (.test (ok r3 0)
    (.test (decide (uI (out r3 0) 0 ≥ (0 : Int)))
    (.stop 0 [.i ((0 : Int)), .i ((0 : Int)), .s ({ data := #[] })])
    (.stop 0 [.i (uI (out r3 0) 1), .i (uI (out r3 0) 2), .s (uS (out r3 0) 3)]))
    (.test (ok r3 1)
    (.stop 0 [.i (uI (out r3 1) 0), .i (uI (out r3 1) 1), .s (uS (out r3 1) 2)])
    .fail))))
    .fail))
    .fail))
    .fail))
  | _ => .fail
set_option maxRecDepth 100000 in
theorem q_value_fold (v0 : Bool) (v1 : List (List PV)) : callK br Tryz.prog X14 M_value_fold L_value_fold (lsT ll_value_fold_153_2) 60 122 (encs [.b v0, .l v1] 0 S_value_fold.ap) (encH [.b v0, .l v1] (ws S_value_fold.ap) S_value_fold.ah) (fun y => fixR Tryz.prog S_value_fold.plan S_value_fold.ah.length y) =
    (m_value_fold [.b v0, .l v1]).go br (fun _ => none) S_value_fold.fin := by
  rw [← callF_eq]; kernel_rfl
theorem e_value_fold : EOK Tryz.prog 122 (gF S_value_fold m_value_fold) :=
  eokTold mixed named x14 (loopsOK_list rids lk_value_fold_153_2) 60 S_value_fold m_value_fold (by
    intro us v h; unfold m_value_fold at h; split at h
    · rename_i v0 v1; exact q_value_fold v0 v1
    · cases h) false
noncomputable abbrev X15 : Ext := extT [(122, (gF S_value_fold m_value_fold))] X14
theorem x15 : XOK Tryz.prog X15 := xok1 x14 e_value_fold

/-- levee/value.And -/
def L_value_And : FuncId → Nat → Option (List Nat) := liveT []
def M_value_And : FuncId → Bool := fun _ => false
def S_value_And : FSp := ⟨[.one (.l 31)], [], [], [([.agg [.i .i64, .i .i64, .s]], [])]⟩
noncomputable def m_value_And : List U → Rt
  | [.l v0] =>
    (let r0 : Rs := (Rt.res (m_value_fold [U.b false, U.l v0]))
    (.test (ok r0 0)
    (.stop 0 [.i (uI (out r0 0) 0), .i (uI (out r0 0) 1), .s (uS (out r0 0) 2)])
    .fail))
  | _ => .fail
set_option maxRecDepth 100000 in
theorem q_value_And (v0 : List (List PV)) : callK br Tryz.prog X15 M_value_And L_value_And (lsT []) 60 101 (encs [.l v0] 0 S_value_And.ap) (encH [.l v0] (ws S_value_And.ap) S_value_And.ah) (fun y => fixR Tryz.prog S_value_And.plan S_value_And.ah.length y) =
    (m_value_And [.l v0]).go br (fun _ => none) S_value_And.fin := by
  rw [← callF_eq]; kernel_rfl
theorem e_value_And : EOK Tryz.prog 101 (gF S_value_And m_value_And) :=
  eokTold mixed named x15 (loopsOK_list rids noneIn) 60 S_value_And m_value_And (by
    intro us v h; unfold m_value_And at h; split at h
    · rename_i v0; exact q_value_And v0
    · cases h) false
noncomputable abbrev X16 : Ext := extT [(101, (gF S_value_And m_value_And))] X15
theorem x16 : XOK Tryz.prog X16 := xok1 x15 e_value_And

/-- levee/value.Or -/
def L_value_Or : FuncId → Nat → Option (List Nat) := liveT []
def M_value_Or : FuncId → Bool := fun _ => false
def S_value_Or : FSp := ⟨[.one (.l 31)], [], [], [([.agg [.i .i64, .i .i64, .s]], [])]⟩
noncomputable def m_value_Or : List U → Rt
  | [.l v0] =>
    (let r0 : Rs := (Rt.res (m_value_fold [U.b true, U.l v0]))
    (.test (ok r0 0)
    (.stop 0 [.i (uI (out r0 0) 0), .i (uI (out r0 0) 1), .s (uS (out r0 0) 2)])
    .fail))
  | _ => .fail
set_option maxRecDepth 100000 in
theorem q_value_Or (v0 : List (List PV)) : callK br Tryz.prog X16 M_value_Or L_value_Or (lsT []) 60 102 (encs [.l v0] 0 S_value_Or.ap) (encH [.l v0] (ws S_value_Or.ap) S_value_Or.ah) (fun y => fixR Tryz.prog S_value_Or.plan S_value_Or.ah.length y) =
    (m_value_Or [.l v0]).go br (fun _ => none) S_value_Or.fin := by
  rw [← callF_eq]; kernel_rfl
theorem e_value_Or : EOK Tryz.prog 102 (gF S_value_Or m_value_Or) :=
  eokTold mixed named x16 (loopsOK_list rids noneIn) 60 S_value_Or m_value_Or (by
    intro us v h; unfold m_value_Or at h; split at h
    · rename_i v0; exact q_value_Or v0
    · cases h) false
noncomputable abbrev X17 : Ext := extT [(102, (gF S_value_Or m_value_Or))] X16
theorem x17 : XOK Tryz.prog X17 := xok1 x16 e_value_Or

/-- levee/value.Not -/
def L_value_Not : FuncId → Nat → Option (List Nat) := liveT []
def M_value_Not : FuncId → Bool := fun _ => false
def S_value_Not : FSp := ⟨[.agg [.i .i64, .i .i64, .s]], [], [], [([.agg [.i .i64, .i .i64, .s]], [])]⟩
noncomputable def m_value_Not : List U → Rt
  | [.i v0, .i v1, .s v2] =>
    (.test (v0 == (1 : Int) && (v1 == (1 : Int) && (ByteArray.toList v2 == [] && true)))
    (.stop 0 [.i ((1 : Int)), .i ((0 : Int)), .s ({ data := #[] })])
    (.test (v0 == (1 : Int) && (v1 == (0 : Int) && (ByteArray.toList v2 == [] && true)))
    (.stop 0 [.i ((1 : Int)), .i ((1 : Int)), .s ({ data := #[] })])
    (.stop 0 [.i ((0 : Int)), .i ((0 : Int)), .s ({ data := #[] })])))
  | _ => .fail
set_option maxRecDepth 100000 in
theorem q_value_Not (v0 : Int) (v1 : Int) (v2 : ByteArray) : callK br Tryz.prog X17 M_value_Not L_value_Not (lsT []) 60 103 (encs [.i v0, .i v1, .s v2] 0 S_value_Not.ap) (encH [.i v0, .i v1, .s v2] (ws S_value_Not.ap) S_value_Not.ah) (fun y => fixR Tryz.prog S_value_Not.plan S_value_Not.ah.length y) =
    (m_value_Not [.i v0, .i v1, .s v2]).go br (fun _ => none) S_value_Not.fin := by
  rw [← callF_eq]; kernel_rfl
theorem e_value_Not : EOK Tryz.prog 103 (gF S_value_Not m_value_Not) :=
  eokTold mixed named x17 (loopsOK_list rids noneIn) 60 S_value_Not m_value_Not (by
    intro us v h; unfold m_value_Not at h; split at h
    · rename_i v0 v1 v2; exact q_value_Not v0 v1 v2
    · cases h) false
noncomputable abbrev X18 : Ext := extT [(103, (gF S_value_Not m_value_Not))] X17
theorem x18 : XOK Tryz.prog X18 := xok1 x17 e_value_Not

/-- cmp.isNaN[int] -/
def L_cmp_isNaN_int : FuncId → Nat → Option (List Nat) := liveT []
def M_cmp_isNaN_int : FuncId → Bool := fun _ => false
def S_cmp_isNaN_int : FSp := ⟨[.one (.i .i64)], [], [], [([.one (.b)], [])]⟩
noncomputable def m_cmp_isNaN_int : List U → Rt
  | [.i v0] =>
    (.stop 0 [.b (v0 != v0)])
  | _ => .fail
set_option maxRecDepth 100000 in
theorem q_cmp_isNaN_int (v0 : Int) : callK br Tryz.prog X18 M_cmp_isNaN_int L_cmp_isNaN_int (lsT []) 60 140 (encs [.i v0] 0 S_cmp_isNaN_int.ap) (encH [.i v0] (ws S_cmp_isNaN_int.ap) S_cmp_isNaN_int.ah) (fun y => fixR Tryz.prog S_cmp_isNaN_int.plan S_cmp_isNaN_int.ah.length y) =
    (m_cmp_isNaN_int [.i v0]).go br (fun _ => none) S_cmp_isNaN_int.fin := by
  rw [← callF_eq]; kernel_rfl
theorem e_cmp_isNaN_int : EOK Tryz.prog 140 (gI S_cmp_isNaN_int m_cmp_isNaN_int) :=
  eokTold mixed named x18 (loopsOK_list rids noneIn) 60 S_cmp_isNaN_int m_cmp_isNaN_int (by
    intro us v h; unfold m_cmp_isNaN_int at h; split at h
    · rename_i v0; exact q_cmp_isNaN_int v0
    · cases h) true
noncomputable abbrev X19 : Ext := extT [(140, (gI S_cmp_isNaN_int m_cmp_isNaN_int))] X18
theorem x19 : XOK Tryz.prog X19 := xok1 x18 e_cmp_isNaN_int

/-- cmp.Compare[int] -/
def L_cmp_Compare_int : FuncId → Nat → Option (List Nat) := liveT []
def M_cmp_Compare_int : FuncId → Bool := fun _ => false
def S_cmp_Compare_int : FSp := ⟨[.one (.i .i64), .one (.i .i64)], [], [], [([.one (.i .i64)], [])]⟩
noncomputable def m_cmp_Compare_int : List U → Rt
  | [.i v0, .i v1] =>
    (.test (v0 != v0)
    (.test (v1 != v1)
    (.stop 0 [.i ((0 : Int))])
    (.stop 0 [.i ((-1 : Int))]))
    (.test (v1 != v1)
    (.stop 0 [.i ((1 : Int))])
    (.test (decide (v0 < v1))
    (.stop 0 [.i ((-1 : Int))])
    (.test (decide (v0 > v1))
    (.stop 0 [.i ((1 : Int))])
    (.stop 0 [.i ((0 : Int))])))))
  | _ => .fail
set_option maxRecDepth 100000 in
theorem q_cmp_Compare_int (v0 : Int) (v1 : Int) : callK br Tryz.prog X19 M_cmp_Compare_int L_cmp_Compare_int (lsT []) 60 124 (encs [.i v0, .i v1] 0 S_cmp_Compare_int.ap) (encH [.i v0, .i v1] (ws S_cmp_Compare_int.ap) S_cmp_Compare_int.ah) (fun y => fixR Tryz.prog S_cmp_Compare_int.plan S_cmp_Compare_int.ah.length y) =
    (m_cmp_Compare_int [.i v0, .i v1]).go br (fun _ => none) S_cmp_Compare_int.fin := by
  rw [← callF_eq]; kernel_rfl
theorem e_cmp_Compare_int : EOK Tryz.prog 124 (gF S_cmp_Compare_int m_cmp_Compare_int) :=
  eokTold mixed named x19 (loopsOK_list rids noneIn) 60 S_cmp_Compare_int m_cmp_Compare_int (by
    intro us v h; unfold m_cmp_Compare_int at h; split at h
    · rename_i v0 v1; exact q_cmp_Compare_int v0 v1
    · cases h) false
noncomputable abbrev X20 : Ext := extT [(124, (gF S_cmp_Compare_int m_cmp_Compare_int))] X19
theorem x20 : XOK Tryz.prog X20 := xok1 x19 e_cmp_Compare_int

/-- levee/value.Compare -/
def L_value_Compare : FuncId → Nat → Option (List Nat) := liveT [(123, 3, [3, 6, 7, 8]), (123, 1000003, [3]), (123, 2000003, [2])]
def M_value_Compare : FuncId → Bool := fun _ => false
noncomputable def rd_value_Compare_123_3 : List U → Rt
  | [.i v0, .l v1, .i v2, .i v3] =>
    (.test (decide (v3 < v2))
    (.test (inR v3 (ln v1))
    (.test (cI (el v1 v3) 0 != v0)
    (.stop 0 [.i (cI (el v1 v3) 0)])
    (.next [.i v0, .l v1, .i v2, .i (w64 (v3 + (1 : Int)))]))
    .fail)
    (.stop 1 [.i v0]))
  | _ => .fail
def sp_value_Compare_123_3 : LSp := ⟨18, ⟨[(3, .one (.i .i64)), (6, .one (.l 3)), (7, .one (.i .i64)), (8, .one (.i .i64))], []⟩, [(.ret, ⟨[(2, .one (.i .i64))], []⟩), (.exit 0, ⟨[(3, .one (.i .i64))], []⟩)]⟩
set_option maxRecDepth 100000 in
theorem rq_value_Compare_123_3 (v0 : Int) (v1 : List (List PV)) (v2 : Int) (v3 : Int) : runK br Tryz.prog (callK br Tryz.prog X20 M_value_Compare L_value_Compare (lsT []) 40) M_value_Compare (lsT [] 123 0) 40 0 (L_value_Compare 123) (bodyOf Tryz.prog 123 3) (sp_value_Compare_123_3.s.ts sp_value_Compare_123_3.n [.i v0, .l v1, .i v2, .i v3]) (sp_value_Compare_123_3.s.h [.i v0, .l v1, .i v2, .i v3]) (idc Tryz.prog 0 (L_value_Compare 123) 3) =
    (rd_value_Compare_123_3 [.i v0, .l v1, .i v2, .i v3]).go br (fun us' => some (.normal, sp_value_Compare_123_3.s.ts sp_value_Compare_123_3.n us', sp_value_Compare_123_3.s.h us')) sp_value_Compare_123_3.fin := by
  rw [← callF_eq, ← runF_eq]; kernel_rfl
theorem lo_value_Compare_123_3 {R : Type} : LoopTells Tryz.prog X20 M_value_Compare L_value_Compare 0 (L_value_Compare 123) (bodyOf Tryz.prog 123 3) (gL (R := R) sp_value_Compare_123_3 rd_value_Compare_123_3 br) :=
  loopTold (callK_ev (loopsOK_list rids noneIn) 40) (lsokIn (loopsOK_list rids noneIn) 123 0 3) (by kernel_rfl) sp_value_Compare_123_3 rd_value_Compare_123_3 rfl (by kernel_rfl) (by
    intro us v h; unfold rd_value_Compare_123_3 at h; split at h
    · rename_i v0 v1 v2 v3; exact rq_value_Compare_123_3 v0 v1 v2 v3
    · cases h)
noncomputable abbrev ll_value_Compare_123_3 {R : Type} : List (Nat × Nat × Nat × Smy R) := (123, 0, 3, gL sp_value_Compare_123_3 rd_value_Compare_123_3 br) :: []
theorem lk_value_Compare_123_3 {R : Type} : ∀ e ∈ ll_value_Compare_123_3 (R := R), LoopTells Tryz.prog X20 M_value_Compare L_value_Compare e.2.1 (L_value_Compare e.1) (bodyOf Tryz.prog e.1 e.2.2.1) e.2.2.2 := List.forall_mem_cons.2 ⟨lo_value_Compare_123_3, noneIn⟩
def S_value_Compare : FSp := ⟨[.agg [.i .i64, .i .i64, .s], .agg [.i .i64, .i .i64, .s]], [], [], [([.one (.i .i64)], [])]⟩
noncomputable def m_value_Compare : List U → Rt
  | [.i v0, .i v1, .s v2, .i v3, .i v4, .s v5] =>
    (let r0 : Rs := (Rt.res (m_cmp_Compare_int [U.i v0, U.i v3]))
    (.test (ok r0 0)
    (let r1 : Rs := (Rt.res (m_cmp_Compare_int [U.i v1, U.i v4]))
    (.test (ok r1 0)
    (let r2 : Rs := (lres rd_value_Compare_123_3 [U.i (0 : Int), U.l [[pI (uI (out r0 0) 0)], [pI (uI (out r1 0) 0)], [pI (Lib.compareBytes (Array.toList (ByteArray.data v2)) (Array.toList (ByteArray.data v5)))]], U.i (3 : Int), U.i (0 : Int)])
    (.test (ok r2 0)
    (.stop 0 [.i (uI (out r2 0) 0)])
    (.test (ok r2 1)
    (.stop 0 [.i (uI (out r2 1) 0)])
    .fail)))
    .fail))
    .fail))
  | _ => .fail
set_option maxRecDepth 100000 in
theorem q_value_Compare (v0 : Int) (v1 : Int) (v2 : ByteArray) (v3 : Int) (v4 : Int) (v5 : ByteArray) : callK br Tryz.prog X20 M_value_Compare L_value_Compare (lsT ll_value_Compare_123_3) 60 109 (encs [.i v0, .i v1, .s v2, .i v3, .i v4, .s v5] 0 S_value_Compare.ap) (encH [.i v0, .i v1, .s v2, .i v3, .i v4, .s v5] (ws S_value_Compare.ap) S_value_Compare.ah) (fun y => fixR Tryz.prog S_value_Compare.plan S_value_Compare.ah.length y) =
    (m_value_Compare [.i v0, .i v1, .s v2, .i v3, .i v4, .s v5]).go br (fun _ => none) S_value_Compare.fin := by
  rw [← callF_eq]; kernel_rfl
theorem e_value_Compare : EOK Tryz.prog 109 (gF S_value_Compare m_value_Compare) :=
  eokTold mixed named x20 (loopsOK_list rids lk_value_Compare_123_3) 60 S_value_Compare m_value_Compare (by
    intro us v h; unfold m_value_Compare at h; split at h
    · rename_i v0 v1 v2 v3 v4 v5; exact q_value_Compare v0 v1 v2 v3 v4 v5
    · cases h) false
noncomputable abbrev X21 : Ext := extT [(109, (gF S_value_Compare m_value_Compare))] X20
theorem x21 : XOK Tryz.prog X21 := xok1 x20 e_value_Compare

/-- levee/expr.compare -/
def L_expr_compare : FuncId → Nat → Option (List Nat) := liveT []
def M_expr_compare : FuncId → Bool := fun _ => false
def S_expr_compare : FSp := ⟨[.one (.i .i64), .agg [.i .i64, .i .i64, .s], .agg [.i .i64, .i .i64, .s]], [], [], [([.agg [.i .i64, .i .i64, .s]], [])]⟩
noncomputable def m_expr_compare : List U → Rt
  | [.i v0, .i v1, .i v2, .s v3, .i v4, .i v5, .s v6] =>
    (.test (v1 == (0 : Int))
    (.stop 0 [.i ((0 : Int)), .i ((0 : Int)), .s ({ data := #[] })])
    (.test (v4 == (0 : Int))
    (.stop 0 [.i ((0 : Int)), .i ((0 : Int)), .s ({ data := #[] })])
    (let r0 : Rs := (Rt.res (m_value_Compare [U.i v1, U.i v2, U.s v3, U.i v4, U.i v5, U.s v6]))
    (.test (ok r0 0)
    (.test (v0 == (5 : Int))
    (.test (uI (out r0 0) 0 == (0 : Int))
    (.stop 0 [.i ((1 : Int)), .i ((1 : Int)), .s ({ data := #[] })])
    (.test (v0 == (6 : Int))
    (let r1 : Rs := (Rt.res (m_value_Truth [U.b (decide (uI (out r0 0) 0 < (0 : Int)))]))
    (.test (ok r1 0)
    (.stop 0 [.i (uI (out r1 0) 0), .i (uI (out r1 0) 1), .s (uS (out r1 0) 2)])
    .fail))
    (.stop 0 [.i ((1 : Int)), .i ((0 : Int)), .s ({ data := #[] })])))
    (.test (v0 == (6 : Int))
    (let r2 : Rs := (Rt.res (m_value_Truth [U.b (decide (uI (out r0 0) 0 < (0 : Int)))]))
    (.test (ok r2 0)
    (.stop 0 [.i (uI (out r2 0) 0), .i (uI (out r2 0) 1), .s (uS (out r2 0) 2)])
    .fail))
    (.stop 0 [.i ((1 : Int)), .i ((0 : Int)), .s ({ data := #[] })])))
    .fail))))
  | _ => .fail
set_option maxRecDepth 100000 in
theorem q_expr_compare (v0 : Int) (v1 : Int) (v2 : Int) (v3 : ByteArray) (v4 : Int) (v5 : Int) (v6 : ByteArray) : callK br Tryz.prog X21 M_expr_compare L_expr_compare (lsT []) 60 104 (encs [.i v0, .i v1, .i v2, .s v3, .i v4, .i v5, .s v6] 0 S_expr_compare.ap) (encH [.i v0, .i v1, .i v2, .s v3, .i v4, .i v5, .s v6] (ws S_expr_compare.ap) S_expr_compare.ah) (fun y => fixR Tryz.prog S_expr_compare.plan S_expr_compare.ah.length y) =
    (m_expr_compare [.i v0, .i v1, .i v2, .s v3, .i v4, .i v5, .s v6]).go br (fun _ => none) S_expr_compare.fin := by
  rw [← callF_eq]; kernel_rfl
theorem e_expr_compare : EOK Tryz.prog 104 (gF S_expr_compare m_expr_compare) :=
  eokTold mixed named x21 (loopsOK_list rids noneIn) 60 S_expr_compare m_expr_compare (by
    intro us v h; unfold m_expr_compare at h; split at h
    · rename_i v0 v1 v2 v3 v4 v5 v6; exact q_expr_compare v0 v1 v2 v3 v4 v5 v6
    · cases h) false
noncomputable abbrev X22 : Ext := extT [(104, (gF S_expr_compare m_expr_compare))] X21
theorem x22 : XOK Tryz.prog X22 := xok1 x21 e_expr_compare

/-- levee/expr.do -/
def L_expr_do : FuncId → Nat → Option (List Nat) := liveT []
def M_expr_do : FuncId → Bool := fun _ => false
def S_expr_do : FSp := ⟨[.one (.i .i64), .agg [.i .i64, .i .i64, .s], .agg [.i .i64, .i .i64, .s]], [], [], [([.agg [.i .i64, .i .i64, .s], .one (.b)], [])]⟩
noncomputable def m_expr_do : List U → Rt
  | [.i v0, .i v1, .i v2, .s v3, .i v4, .i v5, .s v6] =>
    (.test (v0 == (2 : Int))
    (let r0 : Rs := (Rt.res (m_value_Add [U.i v1, U.i v2, U.s v3, U.i v4, U.i v5, U.s v6]))
    (.test (ok r0 0)
    (.stop 0 [.i (uI (out r0 0) 0), .i (uI (out r0 0) 1), .s (uS (out r0 0) 2), .b (uB (out r0 0) 3)])
    .fail))
    (.test (v0 == (3 : Int))
    (let r1 : Rs := (Rt.res (m_value_Sub [U.i v1, U.i v2, U.s v3, U.i v4, U.i v5, U.s v6]))
    (.test (ok r1 0)
    (.stop 0 [.i (uI (out r1 0) 0), .i (uI (out r1 0) 1), .s (uS (out r1 0) 2), .b (uB (out r1 0) 3)])
    .fail))
    (.test (v0 == (4 : Int))
    (let r2 : Rs := (Rt.res (m_value_Mul [U.i v1, U.i v2, U.s v3, U.i v4, U.i v5, U.s v6]))
    (.test (ok r2 0)
    (.stop 0 [.i (uI (out r2 0) 0), .i (uI (out r2 0) 1), .s (uS (out r2 0) 2), .b (uB (out r2 0) 3)])
    .fail))
    (.test (v0 == (7 : Int))
    (let r3 : Rs := (Rt.res (m_value_And [U.l [[pI v1, pI v2, pS v3], [pI v4, pI v5, pS v6]]]))
    (.test (ok r3 0)
    (.stop 0 [.i (uI (out r3 0) 0), .i (uI (out r3 0) 1), .s (uS (out r3 0) 2), .b true])
    .fail))
    (.test (v0 == (8 : Int))
    (let r4 : Rs := (Rt.res (m_value_Or [U.l [[pI v1, pI v2, pS v3], [pI v4, pI v5, pS v6]]]))
    (.test (ok r4 0)
    (.stop 0 [.i (uI (out r4 0) 0), .i (uI (out r4 0) 1), .s (uS (out r4 0) 2), .b true])
    .fail))
    (.test (v0 == (9 : Int))
    (let r5 : Rs := (Rt.res (m_value_Not [U.i v4, U.i v5, U.s v6]))
    (.test (ok r5 0)
    (.stop 0 [.i (uI (out r5 0) 0), .i (uI (out r5 0) 1), .s (uS (out r5 0) 2), .b true])
    .fail))
    (.test (v0 == (10 : Int))
    (let r6 : Rs := (Rt.res (m_value_Truth [U.b (v4 == (0 : Int))]))
    (.test (ok r6 0)
    (.stop 0 [.i (uI (out r6 0) 0), .i (uI (out r6 0) 1), .s (uS (out r6 0) 2), .b true])
    .fail))
    (let r7 : Rs := (Rt.res (m_expr_compare [U.i v0, U.i v1, U.i v2, U.s v3, U.i v4, U.i v5, U.s v6]))
    (.test (ok r7 0)
    (.stop 0 [.i (uI (out r7 0) 0), .i (uI (out r7 0) 1), .s (uS (out r7 0) 2), .b true])
    .fail)))))))))
  | _ => .fail
set_option maxRecDepth 100000 in
theorem q_expr_do (v0 : Int) (v1 : Int) (v2 : Int) (v3 : ByteArray) (v4 : Int) (v5 : Int) (v6 : ByteArray) : callK br Tryz.prog X22 M_expr_do L_expr_do (lsT []) 60 67 (encs [.i v0, .i v1, .i v2, .s v3, .i v4, .i v5, .s v6] 0 S_expr_do.ap) (encH [.i v0, .i v1, .i v2, .s v3, .i v4, .i v5, .s v6] (ws S_expr_do.ap) S_expr_do.ah) (fun y => fixR Tryz.prog S_expr_do.plan S_expr_do.ah.length y) =
    (m_expr_do [.i v0, .i v1, .i v2, .s v3, .i v4, .i v5, .s v6]).go br (fun _ => none) S_expr_do.fin := by
  rw [← callF_eq]; kernel_rfl
theorem e_expr_do : EOK Tryz.prog 67 (gF S_expr_do m_expr_do) :=
  eokTold mixed named x22 (loopsOK_list rids noneIn) 60 S_expr_do m_expr_do (by
    intro us v h; unfold m_expr_do at h; split at h
    · rename_i v0 v1 v2 v3 v4 v5 v6; exact q_expr_do v0 v1 v2 v3 v4 v5 v6
    · cases h) false
noncomputable abbrev X23 : Ext := extT [(67, (gF S_expr_do m_expr_do))] X22
theorem x23 : XOK Tryz.prog X23 := xok1 x22 e_expr_do

/-- levee/expr.Eval -/
def L_expr_Eval : FuncId → Nat → Option (List Nat) := liveT [(7, 6, [4, 6, 23, 24, 25] ++ [1000063000006]), (7, 1000006, [4, 6]), (7, 2000006, [4, 5])]
def M_expr_Eval : FuncId → Bool := fun _ => false
noncomputable def rd_expr_Eval_7_6 : List U → Rt
  | [.l v0, .i v1, .i v2, .i v3, .i v4, .s v5, .b v6, .l v7, .l v8] =>
    (.test (decide (v2 < v1))
    (.test (inR v2 (ln v0))
    (let r0 : Rs := (Rt.res (m_expr_takes [U.i (cI (el v0 v2) 0)]))
    (.test (ok r0 0)
    (.test (decide (uI (out r0 0) 0 > (0 : Int)))
    (.test (ln v8 == (0 : Int))
    (.test (decide (uI (out r0 0) 0 > (1 : Int)))
    (.test (ln v8 == (0 : Int))
    (.stop 0 [.i ((30 : Int)), .i ((0 : Int)), .i ((0 : Int)), .s ({ data := #[] })])
    (.test (inR (w64 (ln v8 - (1 : Int))) (ln v8))
    (.test (decide (Int.toNat (w64 (ln v8 - (1 : Int))) < List.length v8))
    (.test (decide ((0 : Int) ≤ (0 : Int) ∧ (0 : Int) ≤ w64 (ln v8 - (1 : Int)) ∧ w64 (ln v8 - (1 : Int)) ≤ ln v8))
    (.stop 0 [.i ((30 : Int)), .i ((0 : Int)), .i ((0 : Int)), .s ({ data := #[] })])
    .fail)
    .fail)
    .fail))
    (.stop 0 [.i ((30 : Int)), .i ((0 : Int)), .i ((0 : Int)), .s ({ data := #[] })]))
    (.test (inR (w64 (ln v8 - (1 : Int))) (ln v8))
    (.test (decide (Int.toNat (w64 (ln v8 - (1 : Int))) < List.length v8))
    (.test (decide ((0 : Int) ≤ (0 : Int) ∧ (0 : Int) ≤ w64 (ln v8 - (1 : Int)) ∧ w64 (ln v8 - (1 : Int)) ≤ ln v8))
    (.test (decide (uI (out r0 0) 0 > (1 : Int)))
    (.test (decide (0 + (Int.toNat (w64 (ln v8 - (1 : Int))) - 0) ≤ List.length v8))
    (.test ((↑(Int.toNat (w64 (ln v8 - (1 : Int))) - 0) : Int) == (0 : Int))
    (.stop 0 [.i ((30 : Int)), .i ((0 : Int)), .i ((0 : Int)), .s ({ data := #[] })])
    (.test (decide (0 + (Int.toNat (w64 (ln v8 - (1 : Int))) - 0) ≤ List.length v8))
    (.test (decide ((0 : Int) ≤ w64 ((↑(Int.toNat (w64 (ln v8 - (1 : Int))) - 0) : Int) - (1 : Int)) ∧ w64 ((↑(Int.toNat (w64 (ln v8 - (1 : Int))) - 0) : Int) - (1 : Int)) < (↑(Int.toNat (w64 (ln v8 - (1 : Int))) - 0) : Int) ∧ 0 + Int.toNat (w64 ((↑(Int.toNat (w64 (ln v8 - (1 : Int))) - 0) : Int) - (1 : Int))) < List.length v8))
    (.test (decide (0 + Int.toNat (w64 ((↑(Int.toNat (w64 (ln v8 - (1 : Int))) - 0) : Int) - (1 : Int))) < List.length v8))
    (.test (decide (0 + (Int.toNat (w64 (ln v8 - (1 : Int))) - 0) ≤ List.length v8))
    (.test (decide ((0 : Int) ≤ (0 : Int) ∧ (0 : Int) ≤ w64 ((↑(Int.toNat (w64 (ln v8 - (1 : Int))) - 0) : Int) - (1 : Int)) ∧ w64 ((↑(Int.toNat (w64 (ln v8 - (1 : Int))) - 0) : Int) - (1 : Int)) ≤ (↑(Int.toNat (w64 (ln v8 - (1 : Int))) - 0) : Int)))
    (.test (!v6)
    (.stop 0 [.i ((30 : Int)), .i ((0 : Int)), .i ((0 : Int)), .s ({ data := #[] })])
    (.test (decide (uI (out r0 0) 0 < (0 : Int)))
    (.stop 0 [.i ((30 : Int)), .i ((0 : Int)), .i ((0 : Int)), .s ({ data := #[] })])
    (.test (cI (el v0 v2) 0 == (0 : Int))
    (.test (decide (cI (el v0 v2) 1 < (0 : Int)))
    (.stop 0 [.i ((30 : Int)), .i ((0 : Int)), .i ((0 : Int)), .s ({ data := #[] })])
    (.test (decide (cI (el v0 v2) 1 ≥ ln v7))
    (.stop 0 [.i ((30 : Int)), .i ((0 : Int)), .i ((0 : Int)), .s ({ data := #[] })])
    (.test (inR (cI (el v0 v2) 1) (ln v7))
    (.test (decide (0 + (Int.toNat (w64 ((↑(Int.toNat (w64 (ln v8 - (1 : Int))) - 0) : Int) - (1 : Int))) - 0) ≤ List.length v8))
    (.test (decide ((List.length (List.take (Int.toNat (w64 ((↑(Int.toNat (w64 (ln v8 - (1 : Int))) - 0) : Int) - (1 : Int))) - 0) v8) + 1) * 32 ≤ 140737488355328))
    (.next [.l v0, .i v1, .i (w64 (v2 + (1 : Int))), .i v3, .i v4, .s v5, .b v6, .l v7, .l (List.take (Int.toNat (w64 ((↑(Int.toNat (w64 (ln v8 - (1 : Int))) - 0) : Int) - (1 : Int))) - 0) v8 ++ [[pI (cI (el v7 (cI (el v0 v2) 1)) 0), pI (cI (el v7 (cI (el v0 v2) 1)) 1), pS (cS (el v7 (cI (el v0 v2) 1)) 2)]])])
    .fail)
    .fail)
    .fail)))
    (.test (cI (el v0 v2) 0 == (1 : Int))
    (let r1 : Rs := (Rt.res (m_value_May [U.i (cI (el v0 v2) 2), U.i (cI (el v0 v2) 3), U.s (cS (el v0 v2) 4)]))
    (.test (ok r1 0)
    (.test (!uB (out r1 0) 0)
    (.stop 0 [.i ((30 : Int)), .i ((0 : Int)), .i ((0 : Int)), .s ({ data := #[] })])
    (.test (decide (0 + (Int.toNat (w64 ((↑(Int.toNat (w64 (ln v8 - (1 : Int))) - 0) : Int) - (1 : Int))) - 0) ≤ List.length v8))
    (.test (decide ((List.length (List.take (Int.toNat (w64 ((↑(Int.toNat (w64 (ln v8 - (1 : Int))) - 0) : Int) - (1 : Int))) - 0) v8) + 1) * 32 ≤ 140737488355328))
    (.next [.l v0, .i v1, .i (w64 (v2 + (1 : Int))), .i v3, .i v4, .s v5, .b v6, .l v7, .l (List.take (Int.toNat (w64 ((↑(Int.toNat (w64 (ln v8 - (1 : Int))) - 0) : Int) - (1 : Int))) - 0) v8 ++ [[pI (cI (el v0 v2) 2), pI (cI (el v0 v2) 3), pS (cS (el v0 v2) 4)]])])
    .fail)
    .fail))
    .fail))
    (.test (decide ((0 : Int) ≤ w64 ((2 : Int) - uI (out r0 0) 0) ∧ w64 ((2 : Int) - uI (out r0 0) 0) ≤ (2 : Int) ∧ (2 : Int) ≤ (2 : Int)))
    (.test (decide (Int.toNat (w64 ((2 : Int) - uI (out r0 0) 0)) + (2 - Int.toNat (w64 ((2 : Int) - uI (out r0 0) 0))) ≤ 2))
    (let r2 : Rs := (Rt.res (m_expr_leaves [U.i (cI (el v0 v2) 0), U.l (List.take (2 - Int.toNat (w64 ((2 : Int) - uI (out r0 0) 0))) (List.drop (Int.toNat (w64 ((2 : Int) - uI (out r0 0) 0))) [[pI (cI (List.getD v8 (0 + Int.toNat (w64 ((↑(Int.toNat (w64 (ln v8 - (1 : Int))) - 0) : Int) - (1 : Int)))) []) 0)], [pI (cI (el v8 (w64 (ln v8 - (1 : Int)))) 0)]]))]))
    (.test (ok r2 0)
    (.test (!uB (out r2 0) 1)
    (.stop 0 [.i ((30 : Int)), .i ((0 : Int)), .i ((0 : Int)), .s ({ data := #[] })])
    (let r3 : Rs := (Rt.res (m_expr_do [U.i (cI (el v0 v2) 0), U.i (cI (List.getD v8 (0 + Int.toNat (w64 ((↑(Int.toNat (w64 (ln v8 - (1 : Int))) - 0) : Int) - (1 : Int)))) []) 0), U.i (cI (List.getD v8 (0 + Int.toNat (w64 ((↑(Int.toNat (w64 (ln v8 - (1 : Int))) - 0) : Int) - (1 : Int)))) []) 1), U.s (cS (List.getD v8 (0 + Int.toNat (w64 ((↑(Int.toNat (w64 (ln v8 - (1 : Int))) - 0) : Int) - (1 : Int)))) []) 2), U.i (cI (el v8 (w64 (ln v8 - (1 : Int)))) 0), U.i (cI (el v8 (w64 (ln v8 - (1 : Int)))) 1), U.s (cS (el v8 (w64 (ln v8 - (1 : Int)))) 2)]))
    (.test (ok r3 0)
    (.test (!uB (out r3 0) 3)
    (.stop 0 [.i ((31 : Int)), .i ((0 : Int)), .i ((0 : Int)), .s ({ data := #[] })])
    (.test (decide (0 + (Int.toNat (w64 ((↑(Int.toNat (w64 (ln v8 - (1 : Int))) - 0) : Int) - (1 : Int))) - 0) ≤ List.length v8))
    (.test (decide ((List.length (List.take (Int.toNat (w64 ((↑(Int.toNat (w64 (ln v8 - (1 : Int))) - 0) : Int) - (1 : Int))) - 0) v8) + 1) * 32 ≤ 140737488355328))
    (.next [.l v0, .i v1, .i (w64 (v2 + (1 : Int))), .i v3, .i v4, .s v5, .b v6, .l v7, .l (List.take (Int.toNat (w64 ((↑(Int.toNat (w64 (ln v8 - (1 : Int))) - 0) : Int) - (1 : Int))) - 0) v8 ++ [[pI (uI (out r3 0) 0), pI (uI (out r3 0) 1), pS (uS (out r3 0) 2)]])])
    .fail)
    .fail))
    .fail)))
    .fail))
    .fail)
    .fail)))))
    .fail)
    .fail)
    .fail)
    .fail)
    .fail))
    .fail)
    (.test (!v6)
    (.stop 0 [.i ((30 : Int)), .i ((0 : Int)), .i ((0 : Int)), .s ({ data := #[] })])
    (.test (decide (uI (out r0 0) 0 < (0 : Int)))
    (.stop 0 [.i ((30 : Int)), .i ((0 : Int)), .i ((0 : Int)), .s ({ data := #[] })])
    (.test (cI (el v0 v2) 0 == (0 : Int))
    (.test (decide (cI (el v0 v2) 1 < (0 : Int)))
    (.stop 0 [.i ((30 : Int)), .i ((0 : Int)), .i ((0 : Int)), .s ({ data := #[] })])
    (.test (decide (cI (el v0 v2) 1 ≥ ln v7))
    (.stop 0 [.i ((30 : Int)), .i ((0 : Int)), .i ((0 : Int)), .s ({ data := #[] })])
    (.test (inR (cI (el v0 v2) 1) (ln v7))
    (.test (decide (0 + (Int.toNat (w64 (ln v8 - (1 : Int))) - 0) ≤ List.length v8))
    (.test (decide ((List.length (List.take (Int.toNat (w64 (ln v8 - (1 : Int))) - 0) v8) + 1) * 32 ≤ 140737488355328))
    (.next [.l v0, .i v1, .i (w64 (v2 + (1 : Int))), .i v3, .i v4, .s v5, .b v6, .l v7, .l (List.take (Int.toNat (w64 (ln v8 - (1 : Int))) - 0) v8 ++ [[pI (cI (el v7 (cI (el v0 v2) 1)) 0), pI (cI (el v7 (cI (el v0 v2) 1)) 1), pS (cS (el v7 (cI (el v0 v2) 1)) 2)]])])
    .fail)
    .fail)
    .fail)))
    (.test (cI (el v0 v2) 0 == (1 : Int))
    (let r4 : Rs := (Rt.res (m_value_May [U.i (cI (el v0 v2) 2), U.i (cI (el v0 v2) 3), U.s (cS (el v0 v2) 4)]))
    (.test (ok r4 0)
    (.test (!uB (out r4 0) 0)
    (.stop 0 [.i ((30 : Int)), .i ((0 : Int)), .i ((0 : Int)), .s ({ data := #[] })])
    (.test (decide (0 + (Int.toNat (w64 (ln v8 - (1 : Int))) - 0) ≤ List.length v8))
    (.test (decide ((List.length (List.take (Int.toNat (w64 (ln v8 - (1 : Int))) - 0) v8) + 1) * 32 ≤ 140737488355328))
    (.next [.l v0, .i v1, .i (w64 (v2 + (1 : Int))), .i v3, .i v4, .s v5, .b v6, .l v7, .l (List.take (Int.toNat (w64 (ln v8 - (1 : Int))) - 0) v8 ++ [[pI (cI (el v0 v2) 2), pI (cI (el v0 v2) 3), pS (cS (el v0 v2) 4)]])])
    .fail)
    .fail))
    .fail))
    (.test (decide ((0 : Int) ≤ w64 ((2 : Int) - uI (out r0 0) 0) ∧ w64 ((2 : Int) - uI (out r0 0) 0) ≤ (2 : Int) ∧ (2 : Int) ≤ (2 : Int)))
    (.test (decide (Int.toNat (w64 ((2 : Int) - uI (out r0 0) 0)) + (2 - Int.toNat (w64 ((2 : Int) - uI (out r0 0) 0))) ≤ 2))
    (let r5 : Rs := (Rt.res (m_expr_leaves [U.i (cI (el v0 v2) 0), U.l (List.take (2 - Int.toNat (w64 ((2 : Int) - uI (out r0 0) 0))) (List.drop (Int.toNat (w64 ((2 : Int) - uI (out r0 0) 0))) [[pI (0 : Int)], [pI (cI (el v8 (w64 (ln v8 - (1 : Int)))) 0)]]))]))
    (.test (ok r5 0)
    (.test (!uB (out r5 0) 1)
    (.stop 0 [.i ((30 : Int)), .i ((0 : Int)), .i ((0 : Int)), .s ({ data := #[] })])
    (let r6 : Rs := (Rt.res (m_expr_do [U.i (cI (el v0 v2) 0), U.i (0 : Int), U.i (0 : Int), U.s { data := #[] }, U.i (cI (el v8 (w64 (ln v8 - (1 : Int)))) 0), U.i (cI (el v8 (w64 (ln v8 - (1 : Int)))) 1), U.s (cS (el v8 (w64 (ln v8 - (1 : Int)))) 2)]))
    (.test (ok r6 0)
    (.test (!uB (out r6 0) 3)
    (.stop 0 [.i ((31 : Int)), .i ((0 : Int)), .i ((0 : Int)), .s ({ data := #[] })])
    (.test (decide (0 + (Int.toNat (w64 (ln v8 - (1 : Int))) - 0) ≤ List.length v8))
    (.test (decide ((List.length (List.take (Int.toNat (w64 (ln v8 - (1 : Int))) - 0) v8) + 1) * 32 ≤ 140737488355328))
    (.next [.l v0, .i v1, .i (w64 (v2 + (1 : Int))), .i v3, .i v4, .s v5, .b v6, .l v7, .l (List.take (Int.toNat (w64 (ln v8 - (1 : Int))) - 0) v8 ++ [[pI (uI (out r6 0) 0), pI (uI (out r6 0) 1), pS (uS (out r6 0) 2)]])])
    .fail)
    .fail))
    .fail)))
    .fail))
    .fail)
    .fail))))))
    .fail)
    .fail)
    .fail))
    (.test (decide (uI (out r0 0) 0 > (1 : Int)))
    (.test (ln v8 == (0 : Int))
    (.stop 0 [.i ((30 : Int)), .i ((0 : Int)), .i ((0 : Int)), .s ({ data := #[] })])
    (.test (inR (w64 (ln v8 - (1 : Int))) (ln v8))
    (.test (decide (Int.toNat (w64 (ln v8 - (1 : Int))) < List.length v8))
    (.test (decide ((0 : Int) ≤ (0 : Int) ∧ (0 : Int) ≤ w64 (ln v8 - (1 : Int)) ∧ w64 (ln v8 - (1 : Int)) ≤ ln v8))
    (.test (!v6)
    (.stop 0 [.i ((30 : Int)), .i ((0 : Int)), .i ((0 : Int)), .s ({ data := #[] })])
    (.test (decide (uI (out r0 0) 0 < (0 : Int)))
    (.stop 0 [.i ((30 : Int)), .i ((0 : Int)), .i ((0 : Int)), .s ({ data := #[] })])
    (.test (cI (el v0 v2) 0 == (0 : Int))
    (.test (decide (cI (el v0 v2) 1 < (0 : Int)))
    (.stop 0 [.i ((30 : Int)), .i ((0 : Int)), .i ((0 : Int)), .s ({ data := #[] })])
    (.test (decide (cI (el v0 v2) 1 ≥ ln v7))
    (.stop 0 [.i ((30 : Int)), .i ((0 : Int)), .i ((0 : Int)), .s ({ data := #[] })])
    (.test (inR (cI (el v0 v2) 1) (ln v7))
    (.test (decide (0 + (Int.toNat (w64 (ln v8 - (1 : Int))) - 0) ≤ List.length v8))
    (.test (decide ((List.length (List.take (Int.toNat (w64 (ln v8 - (1 : Int))) - 0) v8) + 1) * 32 ≤ 140737488355328))
    (.next [.l v0, .i v1, .i (w64 (v2 + (1 : Int))), .i v3, .i v4, .s v5, .b v6, .l v7, .l (List.take (Int.toNat (w64 (ln v8 - (1 : Int))) - 0) v8 ++ [[pI (cI (el v7 (cI (el v0 v2) 1)) 0), pI (cI (el v7 (cI (el v0 v2) 1)) 1), pS (cS (el v7 (cI (el v0 v2) 1)) 2)]])])
    .fail)
    .fail)
    .fail)))
    (.test (cI (el v0 v2) 0 == (1 : Int))
    (let r7 : Rs := (Rt.res (m_value_May [U.i (cI (el v0 v2) 2), U.i (cI (el v0 v2) 3), U.s (cS (el v0 v2) 4)]))
    (.test (ok r7 0)
    (.test (!uB (out r7 0) 0)
    (.stop 0 [.i ((30 : Int)), .i ((0 : Int)), .i ((0 : Int)), .s ({ data := #[] })])
    (.test (decide (0 + (Int.toNat (w64 (ln v8 - (1 : Int))) - 0) ≤ List.length v8))
    (.test (decide ((List.length (List.take (Int.toNat (w64 (ln v8 - (1 : Int))) - 0) v8) + 1) * 32 ≤ 140737488355328))
    (.next [.l v0, .i v1, .i (w64 (v2 + (1 : Int))), .i v3, .i v4, .s v5, .b v6, .l v7, .l (List.take (Int.toNat (w64 (ln v8 - (1 : Int))) - 0) v8 ++ [[pI (cI (el v0 v2) 2), pI (cI (el v0 v2) 3), pS (cS (el v0 v2) 4)]])])
    .fail)
    .fail))
    .fail))
    (.test (decide ((0 : Int) ≤ w64 ((2 : Int) - uI (out r0 0) 0) ∧ w64 ((2 : Int) - uI (out r0 0) 0) ≤ (2 : Int) ∧ (2 : Int) ≤ (2 : Int)))
    (.test (decide (Int.toNat (w64 ((2 : Int) - uI (out r0 0) 0)) + (2 - Int.toNat (w64 ((2 : Int) - uI (out r0 0) 0))) ≤ 2))
    (let r8 : Rs := (Rt.res (m_expr_leaves [U.i (cI (el v0 v2) 0), U.l (List.take (2 - Int.toNat (w64 ((2 : Int) - uI (out r0 0) 0))) (List.drop (Int.toNat (w64 ((2 : Int) - uI (out r0 0) 0))) [[pI (cI (el v8 (w64 (ln v8 - (1 : Int)))) 0)], [pI (0 : Int)]]))]))
    (.test (ok r8 0)
    (.test (!uB (out r8 0) 1)
    (.stop 0 [.i ((30 : Int)), .i ((0 : Int)), .i ((0 : Int)), .s ({ data := #[] })])
    (let r9 : Rs := (Rt.res (m_expr_do [U.i (cI (el v0 v2) 0), U.i (cI (el v8 (w64 (ln v8 - (1 : Int)))) 0), U.i (cI (el v8 (w64 (ln v8 - (1 : Int)))) 1), U.s (cS (el v8 (w64 (ln v8 - (1 : Int)))) 2), U.i (0 : Int), U.i (0 : Int), U.s { data := #[] }]))
    (.test (ok r9 0)
    (.test (!uB (out r9 0) 3)
    (.stop 0 [.i ((31 : Int)), .i ((0 : Int)), .i ((0 : Int)), .s ({ data := #[] })])
    (.test (decide (0 + (Int.toNat (w64 (ln v8 - (1 : Int))) - 0) ≤ List.length v8))
    (.test (decide ((List.length (List.take (Int.toNat (w64 (ln v8 - (1 : Int))) - 0) v8) + 1) * 32 ≤ 140737488355328))
    (.next [.l v0, .i v1, .i (w64 (v2 + (1 : Int))), .i v3, .i v4, .s v5, .b v6, .l v7, .l (List.take (Int.toNat (w64 (ln v8 - (1 : Int))) - 0) v8 ++ [[pI (uI (out r9 0) 0), pI (uI (out r9 0) 1), pS (uS (out r9 0) 2)]])])
    .fail)
    .fail))
    .fail)))
    .fail))
    .fail)
    .fail)))))
    .fail)
    .fail)
    .fail))
    (.test (!v6)
    (.stop 0 [.i ((30 : Int)), .i ((0 : Int)), .i ((0 : Int)), .s ({ data := #[] })])
    (.test (decide (uI (out r0 0) 0 < (0 : Int)))
    (.stop 0 [.i ((30 : Int)), .i ((0 : Int)), .i ((0 : Int)), .s ({ data := #[] })])
    (.test (cI (el v0 v2) 0 == (0 : Int))
    (.test (decide (cI (el v0 v2) 1 < (0 : Int)))
    (.stop 0 [.i ((30 : Int)), .i ((0 : Int)), .i ((0 : Int)), .s ({ data := #[] })])
    (.test (decide (cI (el v0 v2) 1 ≥ ln v7))
    (.stop 0 [.i ((30 : Int)), .i ((0 : Int)), .i ((0 : Int)), .s ({ data := #[] })])
    (.test (inR (cI (el v0 v2) 1) (ln v7))
    (.test (decide ((List.length v8 + 1) * 32 ≤ 140737488355328))
    (.next [.l v0, .i v1, .i (w64 (v2 + (1 : Int))), .i v3, .i v4, .s v5, .b v6, .l v7, .l (v8 ++ [[pI (cI (el v7 (cI (el v0 v2) 1)) 0), pI (cI (el v7 (cI (el v0 v2) 1)) 1), pS (cS (el v7 (cI (el v0 v2) 1)) 2)]])])
    .fail)
    .fail)))
    (.test (cI (el v0 v2) 0 == (1 : Int))
    (let r10 : Rs := (Rt.res (m_value_May [U.i (cI (el v0 v2) 2), U.i (cI (el v0 v2) 3), U.s (cS (el v0 v2) 4)]))
    (.test (ok r10 0)
    (.test (!uB (out r10 0) 0)
    (.stop 0 [.i ((30 : Int)), .i ((0 : Int)), .i ((0 : Int)), .s ({ data := #[] })])
    (.test (decide ((List.length v8 + 1) * 32 ≤ 140737488355328))
    (.next [.l v0, .i v1, .i (w64 (v2 + (1 : Int))), .i v3, .i v4, .s v5, .b v6, .l v7, .l (v8 ++ [[pI (cI (el v0 v2) 2), pI (cI (el v0 v2) 3), pS (cS (el v0 v2) 4)]])])
    .fail))
    .fail))
    (.test (decide ((0 : Int) ≤ w64 ((2 : Int) - uI (out r0 0) 0) ∧ w64 ((2 : Int) - uI (out r0 0) 0) ≤ (2 : Int) ∧ (2 : Int) ≤ (2 : Int)))
    (.test (decide (Int.toNat (w64 ((2 : Int) - uI (out r0 0) 0)) + (2 - Int.toNat (w64 ((2 : Int) - uI (out r0 0) 0))) ≤ 2))
    (let r11 : Rs := (Rt.res (m_expr_leaves [U.i (cI (el v0 v2) 0), U.l (List.take (2 - Int.toNat (w64 ((2 : Int) - uI (out r0 0) 0))) (List.drop (Int.toNat (w64 ((2 : Int) - uI (out r0 0) 0))) [[pI (0 : Int)], [pI (0 : Int)]]))]))
    (.test (ok r11 0)
    (.test (!uB (out r11 0) 1)
    (.stop 0 [.i ((30 : Int)), .i ((0 : Int)), .i ((0 : Int)), .s ({ data := #[] })])
    (let r12 : Rs := (Rt.res (m_expr_do [U.i (cI (el v0 v2) 0), U.i (0 : Int), U.i (0 : Int), U.s { data := #[] }, U.i (0 : Int), U.i (0 : Int), U.s { data := #[] }]))
    (.test (ok r12 0)
    (.test (!uB (out r12 0) 3)
    (.stop 0 [.i ((31 : Int)), .i ((0 : Int)), .i ((0 : Int)), .s ({ data := #[] })])
    (.test (decide ((List.length v8 + 1) * 32 ≤ 140737488355328))
    (.next [.l v0, .i v1, .i (w64 (v2 + (1 : Int))), .i v3, .i v4, .s v5, .b v6, .l v7, .l (v8 ++ [[pI (uI (out r12 0) 0), pI (uI (out r12 0) 1), pS (uS (out r12 0) 2)]])])
    .fail))
    .fail)))
    .fail))
    .fail)
    .fail)))))))
    .fail))
    .fail)
    (.stop 1 [.i v3, .i v4, .s v5, .b v6, .l v7, .l v8]))
  | _ => .fail
def sp_expr_Eval_7_6 : LSp := ⟨47, ⟨[(4, .one (.ptr 0 0)), (6, .one (.ptr 1 0)), (23, .one (.l 36)), (24, .one (.i .i64)), (25, .one (.i .i64))], [.box 31 [.one (.i .i64), .one (.i .i64), .one (.s)], .box 69 [.one (.all 2), .one (.b), .one (.l 31)], .arr 31 true]⟩, [(.ret, ⟨[(4, .one (.ptr 0 0)), (5, .one (.i .i64))], [.box 31 [.one (.i .i64), .one (.i .i64), .one (.s)]]⟩), (.exit 0, ⟨[(4, .one (.ptr 0 0)), (6, .one (.ptr 1 0))], [.box 31 [.one (.i .i64), .one (.i .i64), .one (.s)], .box 69 [.one (.all 2), .one (.b), .one (.l 31)], .arr 31 true]⟩)]⟩
set_option maxRecDepth 100000 in
theorem rq_expr_Eval_7_6 (v0 : List (List PV)) (v1 : Int) (v2 : Int) (v3 : Int) (v4 : Int) (v5 : ByteArray) (v6 : Bool) (v7 : List (List PV)) (v8 : List (List PV)) : runK br Tryz.prog (callK br Tryz.prog X23 M_expr_Eval L_expr_Eval (lsT []) 40) M_expr_Eval (lsT [] 7 0) 40 0 (L_expr_Eval 7) (bodyOf Tryz.prog 7 6) (sp_expr_Eval_7_6.s.ts sp_expr_Eval_7_6.n [.l v0, .i v1, .i v2, .i v3, .i v4, .s v5, .b v6, .l v7, .l v8]) (sp_expr_Eval_7_6.s.h [.l v0, .i v1, .i v2, .i v3, .i v4, .s v5, .b v6, .l v7, .l v8]) (idc Tryz.prog 0 (L_expr_Eval 7) 6) =
    (rd_expr_Eval_7_6 [.l v0, .i v1, .i v2, .i v3, .i v4, .s v5, .b v6, .l v7, .l v8]).go br (fun us' => some (.normal, sp_expr_Eval_7_6.s.ts sp_expr_Eval_7_6.n us', sp_expr_Eval_7_6.s.h us')) sp_expr_Eval_7_6.fin := by
  rw [← callF_eq, ← runF_eq]; kernel_rfl
theorem lo_expr_Eval_7_6 {R : Type} : LoopTells Tryz.prog X23 M_expr_Eval L_expr_Eval 0 (L_expr_Eval 7) (bodyOf Tryz.prog 7 6) (gL (R := R) sp_expr_Eval_7_6 rd_expr_Eval_7_6 br) :=
  loopTold (callK_ev (loopsOK_list rids noneIn) 40) (lsokIn (loopsOK_list rids noneIn) 7 0 6) (by kernel_rfl) sp_expr_Eval_7_6 rd_expr_Eval_7_6 rfl (by kernel_rfl) (by
    intro us v h; unfold rd_expr_Eval_7_6 at h; split at h
    · rename_i v0 v1 v2 v3 v4 v5 v6 v7 v8; exact rq_expr_Eval_7_6 v0 v1 v2 v3 v4 v5 v6 v7 v8
    · cases h)
noncomputable abbrev ll_expr_Eval_7_6 {R : Type} : List (Nat × Nat × Nat × Smy R) := (7, 0, 6, gL sp_expr_Eval_7_6 rd_expr_Eval_7_6 br) :: []
theorem lk_expr_Eval_7_6 {R : Type} : ∀ e ∈ ll_expr_Eval_7_6 (R := R), LoopTells Tryz.prog X23 M_expr_Eval L_expr_Eval e.2.1 (L_expr_Eval e.1) (bodyOf Tryz.prog e.1 e.2.2.1) e.2.2.2 := List.forall_mem_cons.2 ⟨lo_expr_Eval_7_6, noneIn⟩
def S_expr_Eval : FSp := ⟨[.one (.l 36), .one (.l 31)], [], [], [([.agg [.i .i64, .i .i64, .s], .one (.i .i64)], [])]⟩
noncomputable def m_expr_Eval : List U → Rt
  | [.l v0, .l v1] =>
    (.test (decide (ln v0 > (100 : Int)))
    (.stop 0 [.i ((0 : Int)), .i ((0 : Int)), .s ({ data := #[] }), .i ((1 : Int))])
    (let r0 : Rs := (lres rd_expr_Eval_7_6 [U.l v0, U.i (ln v0), U.i (0 : Int), U.i (0 : Int), U.i (0 : Int), U.s { data := #[] }, U.b true, U.l v1, U.l []])
    (.test (ok r0 0)
    (.stop 0 [.i (uI (out r0 0) 1), .i (uI (out r0 0) 2), .s (uS (out r0 0) 3), .i (uI (out r0 0) 0)])
    (.test (ok r0 1)
    (.test (!uB (out r0 1) 3)
    (.stop 0 [.i ((0 : Int)), .i ((0 : Int)), .s ({ data := #[] }), .i ((30 : Int))])
    (.test (ln (uL (out r0 1) 5) != (1 : Int))
    (.stop 0 [.i ((0 : Int)), .i ((0 : Int)), .s ({ data := #[] }), .i ((30 : Int))])
    (.test (inR (0 : Int) (ln (uL (out r0 1) 5)))
    (.test (decide (0 < List.length (uL (out r0 1) 5)))
    (.stop 0 [.i (cI (List.getD (uL (out r0 1) 5) 0 []) 0), .i (cI (List.getD (uL (out r0 1) 5) 0 []) 1), .s (cS (List.getD (uL (out r0 1) 5) 0 []) 2), .i ((0 : Int))])
    .fail)
    .fail)))
    .fail))))
  | _ => .fail
set_option maxRecDepth 100000 in
theorem q_expr_Eval (v0 : List (List PV)) (v1 : List (List PV)) : callK br Tryz.prog X23 M_expr_Eval L_expr_Eval (lsT ll_expr_Eval_7_6) 60 7 (encs [.l v0, .l v1] 0 S_expr_Eval.ap) (encH [.l v0, .l v1] (ws S_expr_Eval.ap) S_expr_Eval.ah) (fun y => fixR Tryz.prog S_expr_Eval.plan S_expr_Eval.ah.length y) =
    (m_expr_Eval [.l v0, .l v1]).go br (fun _ => none) S_expr_Eval.fin := by
  rw [← callF_eq]; kernel_rfl
theorem e_expr_Eval : EOK Tryz.prog 7 (gF S_expr_Eval m_expr_Eval) :=
  eokTold mixed named x23 (loopsOK_list rids lk_expr_Eval_7_6) 60 S_expr_Eval m_expr_Eval (by
    intro us v h; unfold m_expr_Eval at h; split at h
    · rename_i v0 v1; exact q_expr_Eval v0 v1
    · cases h) false
noncomputable abbrev X24 : Ext := extT [(7, (gF S_expr_Eval m_expr_Eval))] X23
theorem x24 : XOK Tryz.prog X24 := xok1 x23 e_expr_Eval

/-- levee/leveeref01.Most -/
def L_R01_Most : FuncId → Nat → Option (List Nat) := liveT []
def M_R01_Most : FuncId → Bool := fun _ => false
def S_R01_Most : FSp := ⟨[], [], [], [([.one (.i .i64)], [])]⟩
noncomputable def m_R01_Most : List U → Rt
  | [] =>
    (.stop 0 [.i ((9223372036854775807 : Int))])
  | _ => .fail
set_option maxRecDepth 100000 in
theorem q_R01_Most : callK br Tryz.prog X24 M_R01_Most L_R01_Most (lsT []) 60 28 (encs [] 0 S_R01_Most.ap) (encH [] (ws S_R01_Most.ap) S_R01_Most.ah) (fun y => fixR Tryz.prog S_R01_Most.plan S_R01_Most.ah.length y) =
    (m_R01_Most []).go br (fun _ => none) S_R01_Most.fin := by
  rw [← callF_eq]; kernel_rfl
theorem e_R01_Most : EOK Tryz.prog 28 (gI S_R01_Most m_R01_Most) :=
  eokTold mixed named x24 (loopsOK_list rids noneIn) 60 S_R01_Most m_R01_Most (by
    intro us v h; unfold m_R01_Most at h; split at h
    · exact q_R01_Most
    · cases h) true
noncomputable abbrev X25 : Ext := extT [(28, (gI S_R01_Most m_R01_Most))] X24
theorem x25 : XOK Tryz.prog X25 := xok1 x24 e_R01_Most

/-- levee/expr.True -/
def L_expr_True : FuncId → Nat → Option (List Nat) := liveT []
def M_expr_True : FuncId → Bool := fun _ => false
def S_expr_True : FSp := ⟨[.one (.l 36), .one (.l 31)], [], [], [([.one (.b), .one (.i .i64)], [])]⟩
noncomputable def m_expr_True : List U → Rt
  | [.l v0, .l v1] =>
    (.test (ln v0 == (0 : Int))
    (.stop 0 [.b true, .i ((0 : Int))])
    (let r0 : Rs := (Rt.res (m_expr_Eval [U.l v0, U.l v1]))
    (.test (ok r0 0)
    (.test (uI (out r0 0) 3 == (0 : Int))
    (.stop 0 [.b (uI (out r0 0) 0 == (1 : Int) && (uI (out r0 0) 1 == (1 : Int) && (ByteArray.toList (uS (out r0 0) 2) == [] && true))), .i (uI (out r0 0) 3)])
    (.stop 0 [.b false, .i (uI (out r0 0) 3)]))
    .fail)))
  | _ => .fail
set_option maxRecDepth 100000 in
theorem q_expr_True (v0 : List (List PV)) (v1 : List (List PV)) : callK br Tryz.prog X25 M_expr_True L_expr_True (lsT []) 60 29 (encs [.l v0, .l v1] 0 S_expr_True.ap) (encH [.l v0, .l v1] (ws S_expr_True.ap) S_expr_True.ah) (fun y => fixR Tryz.prog S_expr_True.plan S_expr_True.ah.length y) =
    (m_expr_True [.l v0, .l v1]).go br (fun _ => none) S_expr_True.fin := by
  rw [← callF_eq]; kernel_rfl
theorem e_expr_True : EOK Tryz.prog 29 (gF S_expr_True m_expr_True) :=
  eokTold mixed named x25 (loopsOK_list rids noneIn) 60 S_expr_True m_expr_True (by
    intro us v h; unfold m_expr_True at h; split at h
    · rename_i v0 v1; exact q_expr_True v0 v1
    · cases h) false
noncomputable abbrev X26 : Ext := extT [(29, (gF S_expr_True m_expr_True))] X25
theorem x26 : XOK Tryz.prog X26 := xok1 x25 e_expr_True

/-- levee/leveeref01.Truth -/
def L_R01_Truth : FuncId → Nat → Option (List Nat) := liveT []
def M_R01_Truth : FuncId → Bool := fun _ => false
def S_R01_Truth : FSp := ⟨[.one (.b)], [], [], [([.agg [.i .i64, .i .i64, .s]], [])]⟩
noncomputable def m_R01_Truth : List U → Rt
  | [.b v0] =>
    (.test v0
    (.stop 0 [.i ((1 : Int)), .i ((1 : Int)), .s ({ data := #[] })])
    (.stop 0 [.i ((1 : Int)), .i ((0 : Int)), .s ({ data := #[] })]))
  | _ => .fail
set_option maxRecDepth 100000 in
theorem q_R01_Truth (v0 : Bool) : callK br Tryz.prog X26 M_R01_Truth L_R01_Truth (lsT []) 60 30 (encs [.b v0] 0 S_R01_Truth.ap) (encH [.b v0] (ws S_R01_Truth.ap) S_R01_Truth.ah) (fun y => fixR Tryz.prog S_R01_Truth.plan S_R01_Truth.ah.length y) =
    (m_R01_Truth [.b v0]).go br (fun _ => none) S_R01_Truth.fin := by
  rw [← callF_eq]; kernel_rfl
theorem e_R01_Truth : EOK Tryz.prog 30 (gF S_R01_Truth m_R01_Truth) :=
  eokTold mixed named x26 (loopsOK_list rids noneIn) 60 S_R01_Truth m_R01_Truth (by
    intro us v h; unfold m_R01_Truth at h; split at h
    · rename_i v0; exact q_R01_Truth v0
    · cases h) false
noncomputable abbrev X27 : Ext := extT [(30, (gF S_R01_Truth m_R01_Truth))] X26
theorem x27 : XOK Tryz.prog X27 := xok1 x26 e_R01_Truth

/-- internal/strconv.FormatBool -/
def L_strconv_FormatBool : FuncId → Nat → Option (List Nat) := liveT []
def M_strconv_FormatBool : FuncId → Bool := fun _ => false
def S_strconv_FormatBool : FSp := ⟨[.one (.b)], [], [], [([.one (.s)], [])]⟩
noncomputable def m_strconv_FormatBool : List U → Rt
  | [.b v0] =>
    (.test v0
    (.stop 0 [.s ({ data := #[(116 : UInt8), (114 : UInt8), (117 : UInt8), (101 : UInt8)] })])
    (.stop 0 [.s ({ data := #[(102 : UInt8), (97 : UInt8), (108 : UInt8), (115 : UInt8), (101 : UInt8)] })]))
  | _ => .fail
set_option maxRecDepth 100000 in
theorem q_strconv_FormatBool (v0 : Bool) : callK br Tryz.prog X27 M_strconv_FormatBool L_strconv_FormatBool (lsT []) 60 114 (encs [.b v0] 0 S_strconv_FormatBool.ap) (encH [.b v0] (ws S_strconv_FormatBool.ap) S_strconv_FormatBool.ah) (fun y => fixR Tryz.prog S_strconv_FormatBool.plan S_strconv_FormatBool.ah.length y) =
    (m_strconv_FormatBool [.b v0]).go br (fun _ => none) S_strconv_FormatBool.fin := by
  rw [← callF_eq]; kernel_rfl
theorem e_strconv_FormatBool : EOK Tryz.prog 114 (gF S_strconv_FormatBool m_strconv_FormatBool) :=
  eokTold mixed named x27 (loopsOK_list rids noneIn) 60 S_strconv_FormatBool m_strconv_FormatBool (by
    intro us v h; unfold m_strconv_FormatBool at h; split at h
    · rename_i v0; exact q_strconv_FormatBool v0
    · cases h) false
noncomputable abbrev X28 : Ext := extT [(114, (gF S_strconv_FormatBool m_strconv_FormatBool))] X27
theorem x28 : XOK Tryz.prog X28 := xok1 x27 e_strconv_FormatBool

/-- levee/value.Text -/
def L_value_Text : FuncId → Nat → Option (List Nat) := liveT []
def M_value_Text : FuncId → Bool := fun _ => false
def S_value_Text : FSp := ⟨[.agg [.i .i64, .i .i64, .s]], [], [], [([.one (.s)], [])]⟩
noncomputable def m_value_Text : List U → Rt
  | [.i v0, .i v1, .s v2] =>
    (.test (v0 == (0 : Int))
    (.stop 0 [.s ({ data := #[(110 : UInt8), (117 : UInt8), (108 : UInt8), (108 : UInt8)] })])
    (.test (v0 == (1 : Int))
    (let r0 : Rs := (Rt.res (m_strconv_FormatBool [U.b (v1 != (0 : Int))]))
    (.test (ok r0 0)
    (.stop 0 [.s (uS (out r0 0) 0)])
    .fail))
    (.test (v0 == (2 : Int))
    (.test (inI64 v1)
    (.stop 0 [.s (itoaB v1)])
    .fail)
    (.test (v0 == (3 : Int))
    (.test (replOk v2 { data := #[(39 : UInt8)] } { data := #[(39 : UInt8), (39 : UInt8)] })
    (.test (decide (1 + ByteArray.size (replB v2 { data := #[(39 : UInt8)] } { data := #[(39 : UInt8), (39 : UInt8)] }) ≤ 9223372036854775807))
    (.test (decide (ByteArray.size ({ data := #[(39 : UInt8)] } ++ replB v2 { data := #[(39 : UInt8)] } { data := #[(39 : UInt8), (39 : UInt8)] }) + 1 ≤ 9223372036854775807))
    (.stop 0 [.s ({ data := #[(39 : UInt8)] } ++ replB v2 { data := #[(39 : UInt8)] } { data := #[(39 : UInt8), (39 : UInt8)] } ++ { data := #[(39 : UInt8)] })])
    .fail)
    .fail)
    .fail)
    (.stop 0 [.s ({ data := #[(63 : UInt8)] })])))))
  | _ => .fail
set_option maxRecDepth 100000 in
theorem q_value_Text (v0 : Int) (v1 : Int) (v2 : ByteArray) : callK br Tryz.prog X28 M_value_Text L_value_Text (lsT []) 60 61 (encs [.i v0, .i v1, .s v2] 0 S_value_Text.ap) (encH [.i v0, .i v1, .s v2] (ws S_value_Text.ap) S_value_Text.ah) (fun y => fixR Tryz.prog S_value_Text.plan S_value_Text.ah.length y) =
    (m_value_Text [.i v0, .i v1, .s v2]).go br (fun _ => none) S_value_Text.fin := by
  rw [← callF_eq]; kernel_rfl
theorem e_value_Text : EOK Tryz.prog 61 (gF S_value_Text m_value_Text) :=
  eokTold mixed named x28 (loopsOK_list rids noneIn) 60 S_value_Text m_value_Text (by
    intro us v h; unfold m_value_Text at h; split at h
    · rename_i v0 v1 v2; exact q_value_Text v0 v1 v2
    · cases h) false
noncomputable abbrev X29 : Ext := extT [(61, (gF S_value_Text m_value_Text))] X28
theorem x29 : XOK Tryz.prog X29 := xok1 x28 e_value_Text

/-- levee/leveelaw03.fixed -/
def L_L03_fixed : FuncId → Nat → Option (List Nat) := liveT []
def M_L03_fixed : FuncId → Bool := fun _ => false
def S_L03_fixed : FSp := ⟨[], [], [], [([.one (.b)], [])]⟩
noncomputable def m_L03_fixed : List U → Rt
  | [] =>
    (.stop 0 [.b true])
  | _ => .fail
set_option maxRecDepth 100000 in
theorem q_L03_fixed : callK br Tryz.prog XD M_L03_fixed L_L03_fixed (lsT []) 60 5 (encs [] 0 S_L03_fixed.ap) (encH [] (ws S_L03_fixed.ap) S_L03_fixed.ah) (fun y => fixR Tryz.prog S_L03_fixed.plan S_L03_fixed.ah.length y) =
    (m_L03_fixed []).go br (fun _ => none) S_L03_fixed.fin := by
  rw [← callF_eq]; kernel_rfl
theorem e_L03_fixed : EOK Tryz.prog 5 (gI S_L03_fixed m_L03_fixed) :=
  eokTold mixed named xD (loopsOK_list rids noneIn) 60 S_L03_fixed m_L03_fixed (by
    intro us v h; unfold m_L03_fixed at h; split at h
    · exact q_L03_fixed
    · cases h) true
noncomputable abbrev X30 : Ext := extT [(5, (gI S_L03_fixed m_L03_fixed))] X29
theorem x30 : XOK Tryz.prog X30 := xok1 x29 e_L03_fixed

/-- levee/leveeref03.Big -/
def L_R03_Big : FuncId → Nat → Option (List Nat) := liveT [(6, 2, [0, 3]), (6, 1000002, [0]), (6, 2000002, [2])]
def M_R03_Big : FuncId → Bool := fun _ => false
noncomputable def rd_R03_Big_6_2 : List U → Rt
  | [.l v0, .i v1] =>
    (.test (decide (v1 < ln v0))
    (.test (inR v1 (ln v0))
    (.test (decide ((↑(ByteArray.size (cS (el v0 v1) 4)) : Int) > (1000 : Int)))
    (.stop 0 [.b true])
    (.next [.l v0, .i (w64 (v1 + (1 : Int)))]))
    .fail)
    (.stop 1 [.l v0]))
  | _ => .fail
def sp_R03_Big_6_2 : LSp := ⟨21, ⟨[(0, .one (.l 36)), (3, .one (.i .i64))], []⟩, [(.ret, ⟨[(2, .one (.b))], []⟩), (.exit 0, ⟨[(0, .one (.l 36))], []⟩)]⟩
set_option maxRecDepth 100000 in
theorem rq_R03_Big_6_2 (v0 : List (List PV)) (v1 : Int) : runK br Tryz.prog (callK br Tryz.prog X30 M_R03_Big L_R03_Big (lsT []) 40) M_R03_Big (lsT [] 6 0) 40 0 (L_R03_Big 6) (bodyOf Tryz.prog 6 2) (sp_R03_Big_6_2.s.ts sp_R03_Big_6_2.n [.l v0, .i v1]) (sp_R03_Big_6_2.s.h [.l v0, .i v1]) (idc Tryz.prog 0 (L_R03_Big 6) 2) =
    (rd_R03_Big_6_2 [.l v0, .i v1]).go br (fun us' => some (.normal, sp_R03_Big_6_2.s.ts sp_R03_Big_6_2.n us', sp_R03_Big_6_2.s.h us')) sp_R03_Big_6_2.fin := by
  rw [← callF_eq, ← runF_eq]; kernel_rfl
theorem lo_R03_Big_6_2 {R : Type} : LoopTells Tryz.prog X30 M_R03_Big L_R03_Big 0 (L_R03_Big 6) (bodyOf Tryz.prog 6 2) (gL (R := R) sp_R03_Big_6_2 rd_R03_Big_6_2 br) :=
  loopTold (callK_ev (loopsOK_list rids noneIn) 40) (lsokIn (loopsOK_list rids noneIn) 6 0 2) (by kernel_rfl) sp_R03_Big_6_2 rd_R03_Big_6_2 rfl (by kernel_rfl) (by
    intro us v h; unfold rd_R03_Big_6_2 at h; split at h
    · rename_i v0 v1; exact rq_R03_Big_6_2 v0 v1
    · cases h)
noncomputable abbrev ll_R03_Big_6_2 {R : Type} : List (Nat × Nat × Nat × Smy R) := (6, 0, 2, gL sp_R03_Big_6_2 rd_R03_Big_6_2 br) :: []
theorem lk_R03_Big_6_2 {R : Type} : ∀ e ∈ ll_R03_Big_6_2 (R := R), LoopTells Tryz.prog X30 M_R03_Big L_R03_Big e.2.1 (L_R03_Big e.1) (bodyOf Tryz.prog e.1 e.2.2.1) e.2.2.2 := List.forall_mem_cons.2 ⟨lo_R03_Big_6_2, noneIn⟩
def S_R03_Big : FSp := ⟨[.one (.l 36)], [], [], [([.one (.b)], [])]⟩
noncomputable def m_R03_Big : List U → Rt
  | [.l v0] =>
    (let r0 : Rs := (lres rd_R03_Big_6_2 [U.l v0, U.i (0 : Int)])
    (.test (ok r0 0)
    (.stop 0 [.b (uB (out r0 0) 0)])
    (.test (ok r0 1)
    (.stop 0 [.b (decide (ln (uL (out r0 1) 0) > (120 : Int)))])
    .fail)))
  | _ => .fail
set_option maxRecDepth 100000 in
theorem q_R03_Big (v0 : List (List PV)) : callK br Tryz.prog X30 M_R03_Big L_R03_Big (lsT ll_R03_Big_6_2) 60 6 (encs [.l v0] 0 S_R03_Big.ap) (encH [.l v0] (ws S_R03_Big.ap) S_R03_Big.ah) (fun y => fixR Tryz.prog S_R03_Big.plan S_R03_Big.ah.length y) =
    (m_R03_Big [.l v0]).go br (fun _ => none) S_R03_Big.fin := by
  rw [← callF_eq]; kernel_rfl
theorem e_R03_Big : EOK Tryz.prog 6 (gF S_R03_Big m_R03_Big) :=
  eokTold mixed named x30 (loopsOK_list rids lk_R03_Big_6_2) 60 S_R03_Big m_R03_Big (by
    intro us v h; unfold m_R03_Big at h; split at h
    · rename_i v0; exact q_R03_Big v0
    · cases h) false
noncomputable abbrev X31 : Ext := extT [(6, (gF S_R03_Big m_R03_Big))] X30
theorem x31 : XOK Tryz.prog X31 := xok1 x30 e_R03_Big

/-- levee/leveeref03.Takes -/
def L_R03_Takes : FuncId → Nat → Option (List Nat) := liveT []
def M_R03_Takes : FuncId → Bool := fun _ => false
def S_R03_Takes : FSp := ⟨[.one (.i .i64)], [], [], [([.one (.i .i64)], [])]⟩
noncomputable def m_R03_Takes : List U → Rt
  | [.i v0] =>
    (.test (v0 == (0 : Int))
    (.stop 0 [.i ((0 : Int))])
    (.test (v0 == (1 : Int))
    (.stop 0 [.i ((0 : Int))])
    (.test (v0 == (9 : Int))
    (.stop 0 [.i ((1 : Int))])
    (.test (v0 == (10 : Int))
    (.stop 0 [.i ((1 : Int))])
    (.test (decide (v0 ≥ (2 : Int)))
    (.test (decide (v0 ≤ (8 : Int)))
    (.stop 0 [.i ((2 : Int))])
    (.stop 0 [.i ((-1 : Int))]))
    (.stop 0 [.i ((-1 : Int))]))))))
  | _ => .fail
set_option maxRecDepth 100000 in
theorem q_R03_Takes (v0 : Int) : callK br Tryz.prog X31 M_R03_Takes L_R03_Takes (lsT []) 60 34 (encs [.i v0] 0 S_R03_Takes.ap) (encH [.i v0] (ws S_R03_Takes.ap) S_R03_Takes.ah) (fun y => fixR Tryz.prog S_R03_Takes.plan S_R03_Takes.ah.length y) =
    (m_R03_Takes [.i v0]).go br (fun _ => none) S_R03_Takes.fin := by
  rw [← callF_eq]; kernel_rfl
theorem e_R03_Takes : EOK Tryz.prog 34 (gF S_R03_Takes m_R03_Takes) :=
  eokTold mixed named x31 (loopsOK_list rids noneIn) 60 S_R03_Takes m_R03_Takes (by
    intro us v h; unfold m_R03_Takes at h; split at h
    · rename_i v0; exact q_R03_Takes v0
    · cases h) false
noncomputable abbrev X32 : Ext := extT [(34, (gF S_R03_Takes m_R03_Takes))] X31
theorem x32 : XOK Tryz.prog X32 := xok1 x31 e_R03_Takes

/-- levee/leveeref01.May -/
def L_R01_May : FuncId → Nat → Option (List Nat) := liveT []
def M_R01_May : FuncId → Bool := fun _ => false
def S_R01_May : FSp := ⟨[.agg [.i .i64, .i .i64, .s]], [], [], [([.one (.b)], [])]⟩
noncomputable def m_R01_May : List U → Rt
  | [.i v0, .i v1, .s v2] =>
    (.test (v0 == (0 : Int))
    (.test (ByteArray.toList v2 == [])
    (.test (decide (v1 ≥ (0 : Int)))
    (.stop 0 [.b (decide (v1 ≤ v0))])
    (.stop 0 [.b false]))
    (.stop 0 [.b false]))
    (.test (v0 == (1 : Int))
    (.test (ByteArray.toList v2 == [])
    (.test (decide (v1 ≥ (0 : Int)))
    (.stop 0 [.b (decide (v1 ≤ v0))])
    (.stop 0 [.b false]))
    (.stop 0 [.b false]))
    (.test (v0 == (2 : Int))
    (.stop 0 [.b (ByteArray.toList v2 == [])])
    (.test (v0 == (3 : Int))
    (.test (v1 == (0 : Int))
    (.stop 0 [.b (decide ((↑(ByteArray.size v2) : Int) ≤ (1000 : Int)))])
    (.stop 0 [.b false]))
    (.stop 0 [.b false])))))
  | _ => .fail
set_option maxRecDepth 100000 in
theorem q_R01_May (v0 : Int) (v1 : Int) (v2 : ByteArray) : callK br Tryz.prog X32 M_R01_May L_R01_May (lsT []) 60 35 (encs [.i v0, .i v1, .s v2] 0 S_R01_May.ap) (encH [.i v0, .i v1, .s v2] (ws S_R01_May.ap) S_R01_May.ah) (fun y => fixR Tryz.prog S_R01_May.plan S_R01_May.ah.length y) =
    (m_R01_May [.i v0, .i v1, .s v2]).go br (fun _ => none) S_R01_May.fin := by
  rw [← callF_eq]; kernel_rfl
theorem e_R01_May : EOK Tryz.prog 35 (gF S_R01_May m_R01_May) :=
  eokTold mixed named x32 (loopsOK_list rids noneIn) 60 S_R01_May m_R01_May (by
    intro us v h; unfold m_R01_May at h; split at h
    · rename_i v0 v1 v2; exact q_R01_May v0 v1 v2
    · cases h) false
noncomputable abbrev X33 : Ext := extT [(35, (gF S_R01_May m_R01_May))] X32
theorem x33 : XOK Tryz.prog X33 := xok1 x32 e_R01_May

/-- levee/leveeref03.Leaves -/
def L_R03_Leaves : FuncId → Nat → Option (List Nat) := liveT []
def M_R03_Leaves : FuncId → Bool := fun _ => false
def S_R03_Leaves : FSp := ⟨[.one (.i .i64), .one (.i .i64), .one (.i .i64)], [], [], [([.one (.i .i64), .one (.b)], [])]⟩
noncomputable def m_R03_Leaves : List U → Rt
  | [.i v0, .i v1, .i v2] =>
    (.test (v0 == (2 : Int))
    (.test (v1 == (2 : Int))
    (.test (v2 == (2 : Int))
    (.stop 0 [.i ((2 : Int)), .b true])
    (.stop 0 [.i ((2 : Int)), .b (v2 == (0 : Int))]))
    (.test (v1 == (0 : Int))
    (.test (v2 == (2 : Int))
    (.stop 0 [.i ((2 : Int)), .b true])
    (.stop 0 [.i ((2 : Int)), .b (v2 == (0 : Int))]))
    (.stop 0 [.i ((2 : Int)), .b false])))
    (.test (v0 == (3 : Int))
    (.test (v1 == (2 : Int))
    (.test (v2 == (2 : Int))
    (.stop 0 [.i ((2 : Int)), .b true])
    (.stop 0 [.i ((2 : Int)), .b (v2 == (0 : Int))]))
    (.test (v1 == (0 : Int))
    (.test (v2 == (2 : Int))
    (.stop 0 [.i ((2 : Int)), .b true])
    (.stop 0 [.i ((2 : Int)), .b (v2 == (0 : Int))]))
    (.stop 0 [.i ((2 : Int)), .b false])))
    (.test (v0 == (4 : Int))
    (.test (v1 == (2 : Int))
    (.test (v2 == (2 : Int))
    (.stop 0 [.i ((2 : Int)), .b true])
    (.stop 0 [.i ((2 : Int)), .b (v2 == (0 : Int))]))
    (.test (v1 == (0 : Int))
    (.test (v2 == (2 : Int))
    (.stop 0 [.i ((2 : Int)), .b true])
    (.stop 0 [.i ((2 : Int)), .b (v2 == (0 : Int))]))
    (.stop 0 [.i ((2 : Int)), .b false])))
    (.test (v0 == (5 : Int))
    (.test (v1 == v2)
    (.stop 0 [.i ((1 : Int)), .b true])
    (.test (v1 == (0 : Int))
    (.stop 0 [.i ((1 : Int)), .b true])
    (.stop 0 [.i ((1 : Int)), .b (v2 == (0 : Int))])))
    (.test (v0 == (6 : Int))
    (.test (v1 == v2)
    (.stop 0 [.i ((1 : Int)), .b true])
    (.test (v1 == (0 : Int))
    (.stop 0 [.i ((1 : Int)), .b true])
    (.stop 0 [.i ((1 : Int)), .b (v2 == (0 : Int))])))
    (.test (v0 == (7 : Int))
    (.test (v1 == (1 : Int))
    (.test (v2 == (1 : Int))
    (.stop 0 [.i ((1 : Int)), .b true])
    (.stop 0 [.i ((1 : Int)), .b (v2 == (0 : Int))]))
    (.test (v1 == (0 : Int))
    (.test (v2 == (1 : Int))
    (.stop 0 [.i ((1 : Int)), .b true])
    (.stop 0 [.i ((1 : Int)), .b (v2 == (0 : Int))]))
    (.stop 0 [.i ((1 : Int)), .b false])))
    (.test (v0 == (8 : Int))
    (.test (v1 == (1 : Int))
    (.test (v2 == (1 : Int))
    (.stop 0 [.i ((1 : Int)), .b true])
    (.stop 0 [.i ((1 : Int)), .b (v2 == (0 : Int))]))
    (.test (v1 == (0 : Int))
    (.test (v2 == (1 : Int))
    (.stop 0 [.i ((1 : Int)), .b true])
    (.stop 0 [.i ((1 : Int)), .b (v2 == (0 : Int))]))
    (.stop 0 [.i ((1 : Int)), .b false])))
    (.test (v0 == (9 : Int))
    (.test (v2 == (1 : Int))
    (.stop 0 [.i ((1 : Int)), .b true])
    (.stop 0 [.i ((1 : Int)), .b (v2 == (0 : Int))]))
    (.stop 0 [.i ((1 : Int)), .b true])))))))))
  | _ => .fail
set_option maxRecDepth 100000 in
theorem q_R03_Leaves (v0 : Int) (v1 : Int) (v2 : Int) : callK br Tryz.prog X33 M_R03_Leaves L_R03_Leaves (lsT []) 60 36 (encs [.i v0, .i v1, .i v2] 0 S_R03_Leaves.ap) (encH [.i v0, .i v1, .i v2] (ws S_R03_Leaves.ap) S_R03_Leaves.ah) (fun y => fixR Tryz.prog S_R03_Leaves.plan S_R03_Leaves.ah.length y) =
    (m_R03_Leaves [.i v0, .i v1, .i v2]).go br (fun _ => none) S_R03_Leaves.fin := by
  rw [← callF_eq]; kernel_rfl
theorem e_R03_Leaves : EOK Tryz.prog 36 (gF S_R03_Leaves m_R03_Leaves) :=
  eokTold mixed named x33 (loopsOK_list rids noneIn) 60 S_R03_Leaves m_R03_Leaves (by
    intro us v h; unfold m_R03_Leaves at h; split at h
    · rename_i v0 v1 v2; exact q_R03_Leaves v0 v1 v2
    · cases h) false
noncomputable abbrev X34 : Ext := extT [(36, (gF S_R03_Leaves m_R03_Leaves))] X33
theorem x34 : XOK Tryz.prog X34 := xok1 x33 e_R03_Leaves

/-- levee/leveeref01.Nulls -/
def L_R01_Nulls : FuncId → Nat → Option (List Nat) := liveT []
def M_R01_Nulls : FuncId → Bool := fun _ => false
def S_R01_Nulls : FSp := ⟨[.agg [.i .i64, .i .i64, .s], .agg [.i .i64, .i .i64, .s]], [], [], [([.one (.b)], [])]⟩
noncomputable def m_R01_Nulls : List U → Rt
  | [.i v0, .i v1, .s v2, .i v3, .i v4, .s v5] =>
    (.test (v0 == (0 : Int))
    (.stop 0 [.b true])
    (.stop 0 [.b (v3 == (0 : Int))]))
  | _ => .fail
set_option maxRecDepth 100000 in
theorem q_R01_Nulls (v0 : Int) (v1 : Int) (v2 : ByteArray) (v3 : Int) (v4 : Int) (v5 : ByteArray) : callK br Tryz.prog X34 M_R01_Nulls L_R01_Nulls (lsT []) 60 74 (encs [.i v0, .i v1, .s v2, .i v3, .i v4, .s v5] 0 S_R01_Nulls.ap) (encH [.i v0, .i v1, .s v2, .i v3, .i v4, .s v5] (ws S_R01_Nulls.ap) S_R01_Nulls.ah) (fun y => fixR Tryz.prog S_R01_Nulls.plan S_R01_Nulls.ah.length y) =
    (m_R01_Nulls [.i v0, .i v1, .s v2, .i v3, .i v4, .s v5]).go br (fun _ => none) S_R01_Nulls.fin := by
  rw [← callF_eq]; kernel_rfl
theorem e_R01_Nulls : EOK Tryz.prog 74 (gF S_R01_Nulls m_R01_Nulls) :=
  eokTold mixed named x34 (loopsOK_list rids noneIn) 60 S_R01_Nulls m_R01_Nulls (by
    intro us v h; unfold m_R01_Nulls at h; split at h
    · rename_i v0 v1 v2 v3 v4 v5; exact q_R01_Nulls v0 v1 v2 v3 v4 v5
    · cases h) false
noncomputable abbrev X35 : Ext := extT [(74, (gF S_R01_Nulls m_R01_Nulls))] X34
theorem x35 : XOK Tryz.prog X35 := xok1 x34 e_R01_Nulls

/-- levee/leveeref01.Ints -/
def L_R01_Ints : FuncId → Nat → Option (List Nat) := liveT []
def M_R01_Ints : FuncId → Bool := fun _ => false
def S_R01_Ints : FSp := ⟨[.agg [.i .i64, .i .i64, .s], .agg [.i .i64, .i .i64, .s]], [], [], [([.one (.b)], [])]⟩
noncomputable def m_R01_Ints : List U → Rt
  | [.i v0, .i v1, .s v2, .i v3, .i v4, .s v5] =>
    (.test (v0 == (2 : Int))
    (.stop 0 [.b (v3 == (2 : Int))])
    (.stop 0 [.b false]))
  | _ => .fail
set_option maxRecDepth 100000 in
theorem q_R01_Ints (v0 : Int) (v1 : Int) (v2 : ByteArray) (v3 : Int) (v4 : Int) (v5 : ByteArray) : callK br Tryz.prog X35 M_R01_Ints L_R01_Ints (lsT []) 60 105 (encs [.i v0, .i v1, .s v2, .i v3, .i v4, .s v5] 0 S_R01_Ints.ap) (encH [.i v0, .i v1, .s v2, .i v3, .i v4, .s v5] (ws S_R01_Ints.ap) S_R01_Ints.ah) (fun y => fixR Tryz.prog S_R01_Ints.plan S_R01_Ints.ah.length y) =
    (m_R01_Ints [.i v0, .i v1, .s v2, .i v3, .i v4, .s v5]).go br (fun _ => none) S_R01_Ints.fin := by
  rw [← callF_eq]; kernel_rfl
theorem e_R01_Ints : EOK Tryz.prog 105 (gF S_R01_Ints m_R01_Ints) :=
  eokTold mixed named x35 (loopsOK_list rids noneIn) 60 S_R01_Ints m_R01_Ints (by
    intro us v h; unfold m_R01_Ints at h; split at h
    · rename_i v0 v1 v2 v3 v4 v5; exact q_R01_Ints v0 v1 v2 v3 v4 v5
    · cases h) false
noncomputable abbrev X36 : Ext := extT [(105, (gF S_R01_Ints m_R01_Ints))] X35
theorem x36 : XOK Tryz.prog X36 := xok1 x35 e_R01_Ints

/-- levee/leveeref01.Least -/
def L_R01_Least : FuncId → Nat → Option (List Nat) := liveT []
def M_R01_Least : FuncId → Bool := fun _ => false
def S_R01_Least : FSp := ⟨[], [], [], [([.one (.i .i64)], [])]⟩
noncomputable def m_R01_Least : List U → Rt
  | [] =>
    (.stop 0 [.i ((-9223372036854775808 : Int))])
  | _ => .fail
set_option maxRecDepth 100000 in
theorem q_R01_Least : callK br Tryz.prog X36 M_R01_Least L_R01_Least (lsT []) 60 106 (encs [] 0 S_R01_Least.ap) (encH [] (ws S_R01_Least.ap) S_R01_Least.ah) (fun y => fixR Tryz.prog S_R01_Least.plan S_R01_Least.ah.length y) =
    (m_R01_Least []).go br (fun _ => none) S_R01_Least.fin := by
  rw [← callF_eq]; kernel_rfl
theorem e_R01_Least : EOK Tryz.prog 106 (gI S_R01_Least m_R01_Least) :=
  eokTold mixed named x36 (loopsOK_list rids noneIn) 60 S_R01_Least m_R01_Least (by
    intro us v h; unfold m_R01_Least at h; split at h
    · exact q_R01_Least
    · cases h) true
noncomputable abbrev X37 : Ext := extT [(106, (gI S_R01_Least m_R01_Least))] X36
theorem x37 : XOK Tryz.prog X37 := xok1 x36 e_R01_Least

/-- levee/leveeref01.Add -/
def L_R01_Add : FuncId → Nat → Option (List Nat) := liveT []
def M_R01_Add : FuncId → Bool := fun _ => false
def S_R01_Add : FSp := ⟨[.agg [.i .i64, .i .i64, .s], .agg [.i .i64, .i .i64, .s]], [], [], [([.agg [.i .i64, .i .i64, .s], .one (.b)], [])]⟩
noncomputable def m_R01_Add : List U → Rt
  | [.i v0, .i v1, .s v2, .i v3, .i v4, .s v5] =>
    (let r0 : Rs := (Rt.res (m_R01_Nulls [U.i v0, U.i v1, U.s v2, U.i v3, U.i v4, U.s v5]))
    (.test (ok r0 0)
    (.test (uB (out r0 0) 0)
    (.stop 0 [.i ((0 : Int)), .i ((0 : Int)), .s ({ data := #[] }), .b true])
    (let r1 : Rs := (Rt.res (m_R01_Ints [U.i v0, U.i v1, U.s v2, U.i v3, U.i v4, U.s v5]))
    (.test (ok r1 0)
    (.test (!uB (out r1 0) 0)
    (.stop 0 [.i ((0 : Int)), .i ((0 : Int)), .s ({ data := #[] }), .b false])
    (.test (decide (v4 > (0 : Int)))
    (.test (decide (v1 > w64 ((9223372036854775807 : Int) - v4)))
    (.stop 0 [.i ((0 : Int)), .i ((0 : Int)), .s ({ data := #[] }), .b false])
    (.test (decide (v4 < (0 : Int)))
    (.test (decide (v1 < w64 ((-9223372036854775808 : Int) - v4)))
    (.stop 0 [.i ((0 : Int)), .i ((0 : Int)), .s ({ data := #[] }), .b false])
    (.stop 0 [.i ((2 : Int)), .i (w64 (v1 + v4)), .s ({ data := #[] }), .b true]))
    (.stop 0 [.i ((2 : Int)), .i (w64 (v1 + v4)), .s ({ data := #[] }), .b true])))
    (.test (decide (v4 < (0 : Int)))
    (.test (decide (v1 < w64 ((-9223372036854775808 : Int) - v4)))
    (.stop 0 [.i ((0 : Int)), .i ((0 : Int)), .s ({ data := #[] }), .b false])
    (.stop 0 [.i ((2 : Int)), .i (w64 (v1 + v4)), .s ({ data := #[] }), .b true]))
    (.stop 0 [.i ((2 : Int)), .i (w64 (v1 + v4)), .s ({ data := #[] }), .b true]))))
    .fail)))
    .fail))
  | _ => .fail
set_option maxRecDepth 100000 in
theorem q_R01_Add (v0 : Int) (v1 : Int) (v2 : ByteArray) (v3 : Int) (v4 : Int) (v5 : ByteArray) : callK br Tryz.prog X37 M_R01_Add L_R01_Add (lsT []) 60 68 (encs [.i v0, .i v1, .s v2, .i v3, .i v4, .s v5] 0 S_R01_Add.ap) (encH [.i v0, .i v1, .s v2, .i v3, .i v4, .s v5] (ws S_R01_Add.ap) S_R01_Add.ah) (fun y => fixR Tryz.prog S_R01_Add.plan S_R01_Add.ah.length y) =
    (m_R01_Add [.i v0, .i v1, .s v2, .i v3, .i v4, .s v5]).go br (fun _ => none) S_R01_Add.fin := by
  rw [← callF_eq]; kernel_rfl
theorem e_R01_Add : EOK Tryz.prog 68 (gF S_R01_Add m_R01_Add) :=
  eokTold mixed named x37 (loopsOK_list rids noneIn) 60 S_R01_Add m_R01_Add (by
    intro us v h; unfold m_R01_Add at h; split at h
    · rename_i v0 v1 v2 v3 v4 v5; exact q_R01_Add v0 v1 v2 v3 v4 v5
    · cases h) false
noncomputable abbrev X38 : Ext := extT [(68, (gF S_R01_Add m_R01_Add))] X37
theorem x38 : XOK Tryz.prog X38 := xok1 x37 e_R01_Add

/-- levee/leveeref01.Sub -/
def L_R01_Sub : FuncId → Nat → Option (List Nat) := liveT []
def M_R01_Sub : FuncId → Bool := fun _ => false
def S_R01_Sub : FSp := ⟨[.agg [.i .i64, .i .i64, .s], .agg [.i .i64, .i .i64, .s]], [], [], [([.agg [.i .i64, .i .i64, .s], .one (.b)], [])]⟩
noncomputable def m_R01_Sub : List U → Rt
  | [.i v0, .i v1, .s v2, .i v3, .i v4, .s v5] =>
    (let r0 : Rs := (Rt.res (m_R01_Nulls [U.i v0, U.i v1, U.s v2, U.i v3, U.i v4, U.s v5]))
    (.test (ok r0 0)
    (.test (uB (out r0 0) 0)
    (.stop 0 [.i ((0 : Int)), .i ((0 : Int)), .s ({ data := #[] }), .b true])
    (let r1 : Rs := (Rt.res (m_R01_Ints [U.i v0, U.i v1, U.s v2, U.i v3, U.i v4, U.s v5]))
    (.test (ok r1 0)
    (.test (!uB (out r1 0) 0)
    (.stop 0 [.i ((0 : Int)), .i ((0 : Int)), .s ({ data := #[] }), .b false])
    (.test (decide (v4 < (0 : Int)))
    (.test (decide (v1 > w64 ((9223372036854775807 : Int) + v4)))
    (.stop 0 [.i ((0 : Int)), .i ((0 : Int)), .s ({ data := #[] }), .b false])
    (.test (decide (v4 > (0 : Int)))
    (.test (decide (v1 < w64 ((-9223372036854775808 : Int) + v4)))
    (.stop 0 [.i ((0 : Int)), .i ((0 : Int)), .s ({ data := #[] }), .b false])
    (.stop 0 [.i ((2 : Int)), .i (w64 (v1 - v4)), .s ({ data := #[] }), .b true]))
    (.stop 0 [.i ((2 : Int)), .i (w64 (v1 - v4)), .s ({ data := #[] }), .b true])))
    (.test (decide (v4 > (0 : Int)))
    (.test (decide (v1 < w64 ((-9223372036854775808 : Int) + v4)))
    (.stop 0 [.i ((0 : Int)), .i ((0 : Int)), .s ({ data := #[] }), .b false])
    (.stop 0 [.i ((2 : Int)), .i (w64 (v1 - v4)), .s ({ data := #[] }), .b true]))
    (.stop 0 [.i ((2 : Int)), .i (w64 (v1 - v4)), .s ({ data := #[] }), .b true]))))
    .fail)))
    .fail))
  | _ => .fail
set_option maxRecDepth 100000 in
theorem q_R01_Sub (v0 : Int) (v1 : Int) (v2 : ByteArray) (v3 : Int) (v4 : Int) (v5 : ByteArray) : callK br Tryz.prog X38 M_R01_Sub L_R01_Sub (lsT []) 60 69 (encs [.i v0, .i v1, .s v2, .i v3, .i v4, .s v5] 0 S_R01_Sub.ap) (encH [.i v0, .i v1, .s v2, .i v3, .i v4, .s v5] (ws S_R01_Sub.ap) S_R01_Sub.ah) (fun y => fixR Tryz.prog S_R01_Sub.plan S_R01_Sub.ah.length y) =
    (m_R01_Sub [.i v0, .i v1, .s v2, .i v3, .i v4, .s v5]).go br (fun _ => none) S_R01_Sub.fin := by
  rw [← callF_eq]; kernel_rfl
theorem e_R01_Sub : EOK Tryz.prog 69 (gF S_R01_Sub m_R01_Sub) :=
  eokTold mixed named x38 (loopsOK_list rids noneIn) 60 S_R01_Sub m_R01_Sub (by
    intro us v h; unfold m_R01_Sub at h; split at h
    · rename_i v0 v1 v2 v3 v4 v5; exact q_R01_Sub v0 v1 v2 v3 v4 v5
    · cases h) false
noncomputable abbrev X39 : Ext := extT [(69, (gF S_R01_Sub m_R01_Sub))] X38
theorem x39 : XOK Tryz.prog X39 := xok1 x38 e_R01_Sub

/-- levee/leveeref01.Mul -/
def L_R01_Mul : FuncId → Nat → Option (List Nat) := liveT []
def M_R01_Mul : FuncId → Bool := fun _ => false
def S_R01_Mul : FSp := ⟨[.agg [.i .i64, .i .i64, .s], .agg [.i .i64, .i .i64, .s]], [], [], [([.agg [.i .i64, .i .i64, .s], .one (.b)], [])]⟩
noncomputable def m_R01_Mul : List U → Rt
  | [.i v0, .i v1, .s v2, .i v3, .i v4, .s v5] =>
    (let r0 : Rs := (Rt.res (m_R01_Nulls [U.i v0, U.i v1, U.s v2, U.i v3, U.i v4, U.s v5]))
    (.test (ok r0 0)
    (.test (uB (out r0 0) 0)
    (.stop 0 [.i ((0 : Int)), .i ((0 : Int)), .s ({ data := #[] }), .b true])
    (let r1 : Rs := (Rt.res (m_R01_Ints [U.i v0, U.i v1, U.s v2, U.i v3, U.i v4, U.s v5]))
    (.test (ok r1 0)
    (.test (!uB (out r1 0) 0)
    (.stop 0 [.i ((0 : Int)), .i ((0 : Int)), .s ({ data := #[] }), .b false])
    (.test (v1 == (0 : Int))
    (.stop 0 [.i ((2 : Int)), .i ((0 : Int)), .s ({ data := #[] }), .b true])
    (.test (v4 == (0 : Int))
    (.stop 0 [.i ((2 : Int)), .i ((0 : Int)), .s ({ data := #[] }), .b true])
    (.test (v1 == (-1 : Int))
    (.test (v4 == (-9223372036854775808 : Int))
    (.stop 0 [.i ((0 : Int)), .i ((0 : Int)), .s ({ data := #[] }), .b false])
    (.test (v4 == (-1 : Int))
    (.test (v1 == (-9223372036854775808 : Int))
    (.stop 0 [.i ((0 : Int)), .i ((0 : Int)), .s ({ data := #[] }), .b false])
    (.test (decide (v4 = (0 : Int)))
    .fail
    (.test (w64 (Int.tdiv (w64 (v1 * v4)) v4) != v1)
    (.stop 0 [.i ((0 : Int)), .i ((0 : Int)), .s ({ data := #[] }), .b false])
    (.test (decide (v4 = (0 : Int)))
    .fail
    (.test (Int.tmod (w64 (v1 * v4)) v4 != (0 : Int))
    (.stop 0 [.i ((0 : Int)), .i ((0 : Int)), .s ({ data := #[] }), .b false])
    (.stop 0 [.i ((2 : Int)), .i (w64 (v1 * v4)), .s ({ data := #[] }), .b true]))))))
    (.test (decide (v4 = (0 : Int)))
    .fail
    (.test (w64 (Int.tdiv (w64 (v1 * v4)) v4) != v1)
    (.stop 0 [.i ((0 : Int)), .i ((0 : Int)), .s ({ data := #[] }), .b false])
    (.test (decide (v4 = (0 : Int)))
    .fail
    (.test (Int.tmod (w64 (v1 * v4)) v4 != (0 : Int))
    (.stop 0 [.i ((0 : Int)), .i ((0 : Int)), .s ({ data := #[] }), .b false])
    (.stop 0 [.i ((2 : Int)), .i (w64 (v1 * v4)), .s ({ data := #[] }), .b true])))))))
    (.test (v4 == (-1 : Int))
    (.test (v1 == (-9223372036854775808 : Int))
    (.stop 0 [.i ((0 : Int)), .i ((0 : Int)), .s ({ data := #[] }), .b false])
    (.test (decide (v4 = (0 : Int)))
    .fail
    (.test (w64 (Int.tdiv (w64 (v1 * v4)) v4) != v1)
    (.stop 0 [.i ((0 : Int)), .i ((0 : Int)), .s ({ data := #[] }), .b false])
    (.test (decide (v4 = (0 : Int)))
    .fail
    (.test (Int.tmod (w64 (v1 * v4)) v4 != (0 : Int))
    (.stop 0 [.i ((0 : Int)), .i ((0 : Int)), .s ({ data := #[] }), .b false])
    (.stop 0 [.i ((2 : Int)), .i (w64 (v1 * v4)), .s ({ data := #[] }), .b true]))))))
    (.test (decide (v4 = (0 : Int)))
    .fail
    (.test (w64 (Int.tdiv (w64 (v1 * v4)) v4) != v1)
    (.stop 0 [.i ((0 : Int)), .i ((0 : Int)), .s ({ data := #[] }), .b false])
    (.test (decide (v4 = (0 : Int)))
    .fail
    (.test (Int.tmod (w64 (v1 * v4)) v4 != (0 : Int))
    (.stop 0 [.i ((0 : Int)), .i ((0 : Int)), .s ({ data := #[] }), .b false])
    (.stop 0 [.i ((2 : Int)), .i (w64 (v1 * v4)), .s ({ data := #[] }), .b true]))))))))))
    .fail)))
    .fail))
  | _ => .fail
set_option maxRecDepth 100000 in
theorem q_R01_Mul (v0 : Int) (v1 : Int) (v2 : ByteArray) (v3 : Int) (v4 : Int) (v5 : ByteArray) : callK br Tryz.prog X39 M_R01_Mul L_R01_Mul (lsT []) 60 70 (encs [.i v0, .i v1, .s v2, .i v3, .i v4, .s v5] 0 S_R01_Mul.ap) (encH [.i v0, .i v1, .s v2, .i v3, .i v4, .s v5] (ws S_R01_Mul.ap) S_R01_Mul.ah) (fun y => fixR Tryz.prog S_R01_Mul.plan S_R01_Mul.ah.length y) =
    (m_R01_Mul [.i v0, .i v1, .s v2, .i v3, .i v4, .s v5]).go br (fun _ => none) S_R01_Mul.fin := by
  rw [← callF_eq]; kernel_rfl
theorem e_R01_Mul : EOK Tryz.prog 70 (gF S_R01_Mul m_R01_Mul) :=
  eokTold mixed named x39 (loopsOK_list rids noneIn) 60 S_R01_Mul m_R01_Mul (by
    intro us v h; unfold m_R01_Mul at h; split at h
    · rename_i v0 v1 v2 v3 v4 v5; exact q_R01_Mul v0 v1 v2 v3 v4 v5
    · cases h) false
noncomputable abbrev X40 : Ext := extT [(70, (gF S_R01_Mul m_R01_Mul))] X39
theorem x40 : XOK Tryz.prog X40 := xok1 x39 e_R01_Mul

/-- levee/leveeref01.And -/
def L_R01_And : FuncId → Nat → Option (List Nat) := liveT [(71, 3, [0, 2, 3, 4]), (71, 1000003, [2, 3]), (71, 2000003, [2])]
def M_R01_And : FuncId → Bool := fun _ => false
noncomputable def rd_R01_And_71_3 : List U → Rt
  | [.l v0, .b v1, .i v2, .i v3, .i v4, .s v5] =>
    (.test (decide (v2 < ln v0))
    (.test (inR v2 (ln v0))
    (.test (cI (el v0 v2) 0 == (1 : Int) && (cI (el v0 v2) 1 == (0 : Int) && (ByteArray.toList (cS (el v0 v2) 2) == [] && true)))
    (.stop 0 [.i ((1 : Int)), .i ((0 : Int)), .s ({ data := #[] })])
    (.test v1
    (.test (inR v2 (ln v0))
    (.next [.l v0, .b (cI (el v0 v2) 0 == (1 : Int) && (cI (el v0 v2) 1 == (1 : Int) && (ByteArray.toList (cS (el v0 v2) 2) == [] && true))), .i (w64 (v2 + (1 : Int))), .i v3, .i v4, .s v5])
    .fail)
    (.next [.l v0, .b false, .i (w64 (v2 + (1 : Int))), .i v3, .i v4, .s v5])))
    .fail)
    (.stop 1 [.b v1, .i v3, .i v4, .s v5]))
  | _ => .fail
def sp_R01_And_71_3 : LSp := ⟨30, ⟨[(0, .one (.l 31)), (2, .one (.ptr 0 0)), (3, .one (.b)), (4, .one (.i .i64))], [.box 31 [.one (.i .i64), .one (.i .i64), .one (.s)]]⟩, [(.ret, ⟨[(2, .one (.ptr 0 0))], [.box 31 [.one (.i .i64), .one (.i .i64), .one (.s)]]⟩), (.exit 0, ⟨[(2, .one (.ptr 0 0)), (3, .one (.b))], [.box 31 [.one (.i .i64), .one (.i .i64), .one (.s)]]⟩)]⟩
set_option maxRecDepth 100000 in
theorem rq_R01_And_71_3 (v0 : List (List PV)) (v1 : Bool) (v2 : Int) (v3 : Int) (v4 : Int) (v5 : ByteArray) : runK br Tryz.prog (callK br Tryz.prog X40 M_R01_And L_R01_And (lsT []) 40) M_R01_And (lsT [] 71 0) 40 0 (L_R01_And 71) (bodyOf Tryz.prog 71 3) (sp_R01_And_71_3.s.ts sp_R01_And_71_3.n [.l v0, .b v1, .i v2, .i v3, .i v4, .s v5]) (sp_R01_And_71_3.s.h [.l v0, .b v1, .i v2, .i v3, .i v4, .s v5]) (idc Tryz.prog 0 (L_R01_And 71) 3) =
    (rd_R01_And_71_3 [.l v0, .b v1, .i v2, .i v3, .i v4, .s v5]).go br (fun us' => some (.normal, sp_R01_And_71_3.s.ts sp_R01_And_71_3.n us', sp_R01_And_71_3.s.h us')) sp_R01_And_71_3.fin := by
  rw [← callF_eq, ← runF_eq]; kernel_rfl
theorem lo_R01_And_71_3 {R : Type} : LoopTells Tryz.prog X40 M_R01_And L_R01_And 0 (L_R01_And 71) (bodyOf Tryz.prog 71 3) (gL (R := R) sp_R01_And_71_3 rd_R01_And_71_3 br) :=
  loopTold (callK_ev (loopsOK_list rids noneIn) 40) (lsokIn (loopsOK_list rids noneIn) 71 0 3) (by kernel_rfl) sp_R01_And_71_3 rd_R01_And_71_3 rfl (by kernel_rfl) (by
    intro us v h; unfold rd_R01_And_71_3 at h; split at h
    · rename_i v0 v1 v2 v3 v4 v5; exact rq_R01_And_71_3 v0 v1 v2 v3 v4 v5
    · cases h)
noncomputable abbrev ll_R01_And_71_3 {R : Type} : List (Nat × Nat × Nat × Smy R) := (71, 0, 3, gL sp_R01_And_71_3 rd_R01_And_71_3 br) :: []
theorem lk_R01_And_71_3 {R : Type} : ∀ e ∈ ll_R01_And_71_3 (R := R), LoopTells Tryz.prog X40 M_R01_And L_R01_And e.2.1 (L_R01_And e.1) (bodyOf Tryz.prog e.1 e.2.2.1) e.2.2.2 := List.forall_mem_cons.2 ⟨lo_R01_And_71_3, noneIn⟩
def S_R01_And : FSp := ⟨[.one (.l 31)], [], [], [([.agg [.i .i64, .i .i64, .s]], [])]⟩
noncomputable def m_R01_And : List U → Rt
  | [.l v0] =>
    (let r0 : Rs := (lres rd_R01_And_71_3 [U.l v0, U.b true, U.i (0 : Int), U.i (0 : Int), U.i (0 : Int), U.s { data := #[] }])
    (.test (ok r0 0)
    (.stop 0 [.i (uI (out r0 0) 0), .i (uI (out r0 0) 1), .s (uS (out r0 0) 2)])
    (.test (ok r0 1)
    (.test (uB (out r0 1) 0)
    (.stop 0 [.i ((1 : Int)), .i ((1 : Int)), .s ({ data := #[] })])
    (.stop 0 [.i ((0 : Int)), .i ((0 : Int)), .s ({ data := #[] })]))
    .fail)))
  | _ => .fail
set_option maxRecDepth 100000 in
theorem q_R01_And (v0 : List (List PV)) : callK br Tryz.prog X40 M_R01_And L_R01_And (lsT ll_R01_And_71_3) 60 71 (encs [.l v0] 0 S_R01_And.ap) (encH [.l v0] (ws S_R01_And.ap) S_R01_And.ah) (fun y => fixR Tryz.prog S_R01_And.plan S_R01_And.ah.length y) =
    (m_R01_And [.l v0]).go br (fun _ => none) S_R01_And.fin := by
  rw [← callF_eq]; kernel_rfl
theorem e_R01_And : EOK Tryz.prog 71 (gF S_R01_And m_R01_And) :=
  eokTold mixed named x40 (loopsOK_list rids lk_R01_And_71_3) 60 S_R01_And m_R01_And (by
    intro us v h; unfold m_R01_And at h; split at h
    · rename_i v0; exact q_R01_And v0
    · cases h) false
noncomputable abbrev X41 : Ext := extT [(71, (gF S_R01_And m_R01_And))] X40
theorem x41 : XOK Tryz.prog X41 := xok1 x40 e_R01_And

/-- levee/leveeref01.Or -/
def L_R01_Or : FuncId → Nat → Option (List Nat) := liveT [(72, 3, [0, 2, 3, 4]), (72, 1000003, [2, 3]), (72, 2000003, [2])]
def M_R01_Or : FuncId → Bool := fun _ => false
noncomputable def rd_R01_Or_72_3 : List U → Rt
  | [.l v0, .b v1, .i v2, .i v3, .i v4, .s v5] =>
    (.test (decide (v2 < ln v0))
    (.test (inR v2 (ln v0))
    (.test (cI (el v0 v2) 0 == (1 : Int) && (cI (el v0 v2) 1 == (1 : Int) && (ByteArray.toList (cS (el v0 v2) 2) == [] && true)))
    (.stop 0 [.i ((1 : Int)), .i ((1 : Int)), .s ({ data := #[] })])
    (.test v1
    (.test (inR v2 (ln v0))
    (.next [.l v0, .b (cI (el v0 v2) 0 == (1 : Int) && (cI (el v0 v2) 1 == (0 : Int) && (ByteArray.toList (cS (el v0 v2) 2) == [] && true))), .i (w64 (v2 + (1 : Int))), .i v3, .i v4, .s v5])
    .fail)
    (.next [.l v0, .b false, .i (w64 (v2 + (1 : Int))), .i v3, .i v4, .s v5])))
    .fail)
    (.stop 1 [.b v1, .i v3, .i v4, .s v5]))
  | _ => .fail
def sp_R01_Or_72_3 : LSp := ⟨30, ⟨[(0, .one (.l 31)), (2, .one (.ptr 0 0)), (3, .one (.b)), (4, .one (.i .i64))], [.box 31 [.one (.i .i64), .one (.i .i64), .one (.s)]]⟩, [(.ret, ⟨[(2, .one (.ptr 0 0))], [.box 31 [.one (.i .i64), .one (.i .i64), .one (.s)]]⟩), (.exit 0, ⟨[(2, .one (.ptr 0 0)), (3, .one (.b))], [.box 31 [.one (.i .i64), .one (.i .i64), .one (.s)]]⟩)]⟩
set_option maxRecDepth 100000 in
theorem rq_R01_Or_72_3 (v0 : List (List PV)) (v1 : Bool) (v2 : Int) (v3 : Int) (v4 : Int) (v5 : ByteArray) : runK br Tryz.prog (callK br Tryz.prog X41 M_R01_Or L_R01_Or (lsT []) 40) M_R01_Or (lsT [] 72 0) 40 0 (L_R01_Or 72) (bodyOf Tryz.prog 72 3) (sp_R01_Or_72_3.s.ts sp_R01_Or_72_3.n [.l v0, .b v1, .i v2, .i v3, .i v4, .s v5]) (sp_R01_Or_72_3.s.h [.l v0, .b v1, .i v2, .i v3, .i v4, .s v5]) (idc Tryz.prog 0 (L_R01_Or 72) 3) =
    (rd_R01_Or_72_3 [.l v0, .b v1, .i v2, .i v3, .i v4, .s v5]).go br (fun us' => some (.normal, sp_R01_Or_72_3.s.ts sp_R01_Or_72_3.n us', sp_R01_Or_72_3.s.h us')) sp_R01_Or_72_3.fin := by
  rw [← callF_eq, ← runF_eq]; kernel_rfl
theorem lo_R01_Or_72_3 {R : Type} : LoopTells Tryz.prog X41 M_R01_Or L_R01_Or 0 (L_R01_Or 72) (bodyOf Tryz.prog 72 3) (gL (R := R) sp_R01_Or_72_3 rd_R01_Or_72_3 br) :=
  loopTold (callK_ev (loopsOK_list rids noneIn) 40) (lsokIn (loopsOK_list rids noneIn) 72 0 3) (by kernel_rfl) sp_R01_Or_72_3 rd_R01_Or_72_3 rfl (by kernel_rfl) (by
    intro us v h; unfold rd_R01_Or_72_3 at h; split at h
    · rename_i v0 v1 v2 v3 v4 v5; exact rq_R01_Or_72_3 v0 v1 v2 v3 v4 v5
    · cases h)
noncomputable abbrev ll_R01_Or_72_3 {R : Type} : List (Nat × Nat × Nat × Smy R) := (72, 0, 3, gL sp_R01_Or_72_3 rd_R01_Or_72_3 br) :: []
theorem lk_R01_Or_72_3 {R : Type} : ∀ e ∈ ll_R01_Or_72_3 (R := R), LoopTells Tryz.prog X41 M_R01_Or L_R01_Or e.2.1 (L_R01_Or e.1) (bodyOf Tryz.prog e.1 e.2.2.1) e.2.2.2 := List.forall_mem_cons.2 ⟨lo_R01_Or_72_3, noneIn⟩
def S_R01_Or : FSp := ⟨[.one (.l 31)], [], [], [([.agg [.i .i64, .i .i64, .s]], [])]⟩
noncomputable def m_R01_Or : List U → Rt
  | [.l v0] =>
    (let r0 : Rs := (lres rd_R01_Or_72_3 [U.l v0, U.b true, U.i (0 : Int), U.i (0 : Int), U.i (0 : Int), U.s { data := #[] }])
    (.test (ok r0 0)
    (.stop 0 [.i (uI (out r0 0) 0), .i (uI (out r0 0) 1), .s (uS (out r0 0) 2)])
    (.test (ok r0 1)
    (.test (uB (out r0 1) 0)
    (.stop 0 [.i ((1 : Int)), .i ((0 : Int)), .s ({ data := #[] })])
    (.stop 0 [.i ((0 : Int)), .i ((0 : Int)), .s ({ data := #[] })]))
    .fail)))
  | _ => .fail
set_option maxRecDepth 100000 in
theorem q_R01_Or (v0 : List (List PV)) : callK br Tryz.prog X41 M_R01_Or L_R01_Or (lsT ll_R01_Or_72_3) 60 72 (encs [.l v0] 0 S_R01_Or.ap) (encH [.l v0] (ws S_R01_Or.ap) S_R01_Or.ah) (fun y => fixR Tryz.prog S_R01_Or.plan S_R01_Or.ah.length y) =
    (m_R01_Or [.l v0]).go br (fun _ => none) S_R01_Or.fin := by
  rw [← callF_eq]; kernel_rfl
theorem e_R01_Or : EOK Tryz.prog 72 (gF S_R01_Or m_R01_Or) :=
  eokTold mixed named x41 (loopsOK_list rids lk_R01_Or_72_3) 60 S_R01_Or m_R01_Or (by
    intro us v h; unfold m_R01_Or at h; split at h
    · rename_i v0; exact q_R01_Or v0
    · cases h) false
noncomputable abbrev X42 : Ext := extT [(72, (gF S_R01_Or m_R01_Or))] X41
theorem x42 : XOK Tryz.prog X42 := xok1 x41 e_R01_Or

/-- levee/leveeref01.Not -/
def L_R01_Not : FuncId → Nat → Option (List Nat) := liveT []
def M_R01_Not : FuncId → Bool := fun _ => false
def S_R01_Not : FSp := ⟨[.agg [.i .i64, .i .i64, .s]], [], [], [([.agg [.i .i64, .i .i64, .s]], [])]⟩
noncomputable def m_R01_Not : List U → Rt
  | [.i v0, .i v1, .s v2] =>
    (.test (v0 == (1 : Int) && (v1 == (1 : Int) && (ByteArray.toList v2 == [] && true)))
    (.stop 0 [.i ((1 : Int)), .i ((0 : Int)), .s ({ data := #[] })])
    (.test (v0 == (1 : Int) && (v1 == (0 : Int) && (ByteArray.toList v2 == [] && true)))
    (.stop 0 [.i ((1 : Int)), .i ((1 : Int)), .s ({ data := #[] })])
    (.stop 0 [.i ((0 : Int)), .i ((0 : Int)), .s ({ data := #[] })])))
  | _ => .fail
set_option maxRecDepth 100000 in
theorem q_R01_Not (v0 : Int) (v1 : Int) (v2 : ByteArray) : callK br Tryz.prog X42 M_R01_Not L_R01_Not (lsT []) 60 73 (encs [.i v0, .i v1, .s v2] 0 S_R01_Not.ap) (encH [.i v0, .i v1, .s v2] (ws S_R01_Not.ap) S_R01_Not.ah) (fun y => fixR Tryz.prog S_R01_Not.plan S_R01_Not.ah.length y) =
    (m_R01_Not [.i v0, .i v1, .s v2]).go br (fun _ => none) S_R01_Not.fin := by
  rw [← callF_eq]; kernel_rfl
theorem e_R01_Not : EOK Tryz.prog 73 (gF S_R01_Not m_R01_Not) :=
  eokTold mixed named x42 (loopsOK_list rids noneIn) 60 S_R01_Not m_R01_Not (by
    intro us v h; unfold m_R01_Not at h; split at h
    · rename_i v0 v1 v2; exact q_R01_Not v0 v1 v2
    · cases h) false
noncomputable abbrev X43 : Ext := extT [(73, (gF S_R01_Not m_R01_Not))] X42
theorem x43 : XOK Tryz.prog X43 := xok1 x42 e_R01_Not

/-- levee/leveeref01.Compare -/
def L_R01_Compare : FuncId → Nat → Option (List Nat) := liveT []
def M_R01_Compare : FuncId → Bool := fun _ => false
def S_R01_Compare : FSp := ⟨[.agg [.i .i64, .i .i64, .s], .agg [.i .i64, .i .i64, .s]], [], [], [([.one (.i .i64)], [])]⟩
noncomputable def m_R01_Compare : List U → Rt
  | [.i v0, .i v1, .s v2, .i v3, .i v4, .s v5] =>
    (.test (v0 != v3)
    (.test (decide (v0 < v3))
    (.stop 0 [.i ((-1 : Int))])
    (.stop 0 [.i ((1 : Int))]))
    (.test (v1 != v4)
    (.test (decide (v1 < v4))
    (.stop 0 [.i ((-1 : Int))])
    (.stop 0 [.i ((1 : Int))]))
    (.test (Op.bytesLess (ByteArray.toList v2) (ByteArray.toList v5))
    (.stop 0 [.i ((-1 : Int))])
    (.test (!(Op.bytesLess (ByteArray.toList v2) (ByteArray.toList v5) || ByteArray.toList v2 == ByteArray.toList v5))
    (.stop 0 [.i ((1 : Int))])
    (.stop 0 [.i ((0 : Int))])))))
  | _ => .fail
set_option maxRecDepth 100000 in
theorem q_R01_Compare (v0 : Int) (v1 : Int) (v2 : ByteArray) (v3 : Int) (v4 : Int) (v5 : ByteArray) : callK br Tryz.prog X43 M_R01_Compare L_R01_Compare (lsT []) 60 75 (encs [.i v0, .i v1, .s v2, .i v3, .i v4, .s v5] 0 S_R01_Compare.ap) (encH [.i v0, .i v1, .s v2, .i v3, .i v4, .s v5] (ws S_R01_Compare.ap) S_R01_Compare.ah) (fun y => fixR Tryz.prog S_R01_Compare.plan S_R01_Compare.ah.length y) =
    (m_R01_Compare [.i v0, .i v1, .s v2, .i v3, .i v4, .s v5]).go br (fun _ => none) S_R01_Compare.fin := by
  rw [← callF_eq]; kernel_rfl
theorem e_R01_Compare : EOK Tryz.prog 75 (gF S_R01_Compare m_R01_Compare) :=
  eokTold mixed named x43 (loopsOK_list rids noneIn) 60 S_R01_Compare m_R01_Compare (by
    intro us v h; unfold m_R01_Compare at h; split at h
    · rename_i v0 v1 v2 v3 v4 v5; exact q_R01_Compare v0 v1 v2 v3 v4 v5
    · cases h) false
noncomputable abbrev X44 : Ext := extT [(75, (gF S_R01_Compare m_R01_Compare))] X43
theorem x44 : XOK Tryz.prog X44 := xok1 x43 e_R01_Compare

/-- levee/leveeref03.do -/
def L_R03_do : FuncId → Nat → Option (List Nat) := liveT []
def M_R03_do : FuncId → Bool := fun _ => false
def S_R03_do : FSp := ⟨[.one (.i .i64), .agg [.i .i64, .i .i64, .s], .agg [.i .i64, .i .i64, .s]], [], [], [([.agg [.i .i64, .i .i64, .s], .one (.b)], [])]⟩
noncomputable def m_R03_do : List U → Rt
  | [.i v0, .i v1, .i v2, .s v3, .i v4, .i v5, .s v6] =>
    (.test (v0 == (2 : Int))
    (let r0 : Rs := (Rt.res (m_R01_Add [U.i v1, U.i v2, U.s v3, U.i v4, U.i v5, U.s v6]))
    (.test (ok r0 0)
    (.stop 0 [.i (uI (out r0 0) 0), .i (uI (out r0 0) 1), .s (uS (out r0 0) 2), .b (uB (out r0 0) 3)])
    .fail))
    (.test (v0 == (3 : Int))
    (let r1 : Rs := (Rt.res (m_R01_Sub [U.i v1, U.i v2, U.s v3, U.i v4, U.i v5, U.s v6]))
    (.test (ok r1 0)
    (.stop 0 [.i (uI (out r1 0) 0), .i (uI (out r1 0) 1), .s (uS (out r1 0) 2), .b (uB (out r1 0) 3)])
    .fail))
    (.test (v0 == (4 : Int))
    (let r2 : Rs := (Rt.res (m_R01_Mul [U.i v1, U.i v2, U.s v3, U.i v4, U.i v5, U.s v6]))
    (.test (ok r2 0)
    (.stop 0 [.i (uI (out r2 0) 0), .i (uI (out r2 0) 1), .s (uS (out r2 0) 2), .b (uB (out r2 0) 3)])
    .fail))
    (.test (v0 == (7 : Int))
    (let r3 : Rs := (Rt.res (m_R01_And [U.l [[pI v1, pI v2, pS v3], [pI v4, pI v5, pS v6]]]))
    (.test (ok r3 0)
    (.stop 0 [.i (uI (out r3 0) 0), .i (uI (out r3 0) 1), .s (uS (out r3 0) 2), .b true])
    .fail))
    (.test (v0 == (8 : Int))
    (let r4 : Rs := (Rt.res (m_R01_Or [U.l [[pI v1, pI v2, pS v3], [pI v4, pI v5, pS v6]]]))
    (.test (ok r4 0)
    (.stop 0 [.i (uI (out r4 0) 0), .i (uI (out r4 0) 1), .s (uS (out r4 0) 2), .b true])
    .fail))
    (.test (v0 == (9 : Int))
    (let r5 : Rs := (Rt.res (m_R01_Not [U.i v4, U.i v5, U.s v6]))
    (.test (ok r5 0)
    (.stop 0 [.i (uI (out r5 0) 0), .i (uI (out r5 0) 1), .s (uS (out r5 0) 2), .b true])
    .fail))
    (.test (v0 == (10 : Int))
    (let r6 : Rs := (Rt.res (m_R01_Truth [U.b (v4 == (0 : Int))]))
    (.test (ok r6 0)
    (.stop 0 [.i (uI (out r6 0) 0), .i (uI (out r6 0) 1), .s (uS (out r6 0) 2), .b true])
    .fail))
    (let r7 : Rs := (Rt.res (m_R01_Nulls [U.i v1, U.i v2, U.s v3, U.i v4, U.i v5, U.s v6]))
    (.test (ok r7 0)
    (.test (uB (out r7 0) 0)
    (.stop 0 [.i ((0 : Int)), .i ((0 : Int)), .s ({ data := #[] }), .b true])
    (.test (v0 == (5 : Int))
    (let r8 : Rs := (Rt.res (m_R01_Compare [U.i v1, U.i v2, U.s v3, U.i v4, U.i v5, U.s v6]))
    (.test (ok r8 0)
    (let r9 : Rs := (Rt.res (m_R01_Truth [U.b (uI (out r8 0) 0 == (0 : Int))]))
    (.test (ok r9 0)
    (.stop 0 [.i (uI (out r9 0) 0), .i (uI (out r9 0) 1), .s (uS (out r9 0) 2), .b true])
    .fail))
    .fail))
    (let r10 : Rs := (Rt.res (m_R01_Compare [U.i v1, U.i v2, U.s v3, U.i v4, U.i v5, U.s v6]))
    (.test (ok r10 0)
    (let r11 : Rs := (Rt.res (m_R01_Truth [U.b (decide (uI (out r10 0) 0 < (0 : Int)))]))
    (.test (ok r11 0)
    (.stop 0 [.i (uI (out r11 0) 0), .i (uI (out r11 0) 1), .s (uS (out r11 0) 2), .b true])
    .fail))
    .fail))))
    .fail)))))))))
  | _ => .fail
set_option maxRecDepth 100000 in
theorem q_R03_do (v0 : Int) (v1 : Int) (v2 : Int) (v3 : ByteArray) (v4 : Int) (v5 : Int) (v6 : ByteArray) : callK br Tryz.prog X44 M_R03_do L_R03_do (lsT []) 60 37 (encs [.i v0, .i v1, .i v2, .s v3, .i v4, .i v5, .s v6] 0 S_R03_do.ap) (encH [.i v0, .i v1, .i v2, .s v3, .i v4, .i v5, .s v6] (ws S_R03_do.ap) S_R03_do.ah) (fun y => fixR Tryz.prog S_R03_do.plan S_R03_do.ah.length y) =
    (m_R03_do [.i v0, .i v1, .i v2, .s v3, .i v4, .i v5, .s v6]).go br (fun _ => none) S_R03_do.fin := by
  rw [← callF_eq]; kernel_rfl
theorem e_R03_do : EOK Tryz.prog 37 (gF S_R03_do m_R03_do) :=
  eokTold mixed named x44 (loopsOK_list rids noneIn) 60 S_R03_do m_R03_do (by
    intro us v h; unfold m_R03_do at h; split at h
    · rename_i v0 v1 v2 v3 v4 v5 v6; exact q_R03_do v0 v1 v2 v3 v4 v5 v6
    · cases h) false
noncomputable abbrev X45 : Ext := extT [(37, (gF S_R03_do m_R03_do))] X44
theorem x45 : XOK Tryz.prog X45 := xok1 x44 e_R03_do

/-- levee/leveeref03.Eval -/
def L_R03_Eval : FuncId → Nat → Option (List Nat) := liveT [(8, 6, [0, 1, 4, 6, 7, 8]), (8, 1000006, [4, 6, 7]), (8, 2000006, [4, 5])]
def M_R03_Eval : FuncId → Bool := fun _ => false
noncomputable def rd_R03_Eval_8_6 : List U → Rt
  | [.l v0, .l v1, .i v2, .i v3, .i v4, .s v5, .i v6, .i v7, .s v8, .l v9] =>
    (.test (decide (v2 < ln v0))
    (.test (inR v2 (ln v0))
    (let r0 : Rs := (Rt.res (m_R03_Takes [U.i (cI (el v0 v2) 0)]))
    (.test (ok r0 0)
    (.test (decide (uI (out r0 0) 0 < (0 : Int)))
    (.stop 0 [.i ((30 : Int)), .i v6, .i v7, .s v8])
    (.test (decide (ln v9 < uI (out r0 0) 0))
    (.stop 0 [.i ((30 : Int)), .i v6, .i v7, .s v8])
    (.test (cI (el v0 v2) 0 == (0 : Int))
    (.test (decide (cI (el v0 v2) 1 < (0 : Int)))
    (.stop 0 [.i ((30 : Int)), .i v6, .i v7, .s v8])
    (.test (decide (cI (el v0 v2) 1 ≥ ln v1))
    (.stop 0 [.i ((30 : Int)), .i v6, .i v7, .s v8])
    (.test (inR (cI (el v0 v2) 1) (ln v1))
    (.test (decide ((List.length v9 + 1) * 32 ≤ 140737488355328))
    (.next [.l v0, .l v1, .i (w64 (v2 + (1 : Int))), .i v3, .i v4, .s v5, .i v6, .i v7, .s v8, .l (v9 ++ [[pI (cI (el v1 (cI (el v0 v2) 1)) 0), pI (cI (el v1 (cI (el v0 v2) 1)) 1), pS (cS (el v1 (cI (el v0 v2) 1)) 2)]])])
    .fail)
    .fail)))
    (.test (cI (el v0 v2) 0 == (1 : Int))
    (let r1 : Rs := (Rt.res (m_R01_May [U.i (cI (el v0 v2) 2), U.i (cI (el v0 v2) 3), U.s (cS (el v0 v2) 4)]))
    (.test (ok r1 0)
    (.test (!uB (out r1 0) 0)
    (.stop 0 [.i ((30 : Int)), .i v6, .i v7, .s v8])
    (.test (decide ((List.length v9 + 1) * 32 ≤ 140737488355328))
    (.next [.l v0, .l v1, .i (w64 (v2 + (1 : Int))), .i v3, .i v4, .s v5, .i v6, .i v7, .s v8, .l (v9 ++ [[pI (cI (el v0 v2) 2), pI (cI (el v0 v2) 3), pS (cS (el v0 v2) 4)]])])
    .fail))
    .fail))
    (.test (inR (w64 (ln v9 - (1 : Int))) (ln v9))
    (.test (decide (Int.toNat (w64 (ln v9 - (1 : Int))) < List.length v9))
    (.test (decide (uI (out r0 0) 0 > (1 : Int)))
    (.test (inR (w64 (ln v9 - (2 : Int))) (ln v9))
    (.test (decide (Int.toNat (w64 (ln v9 - (2 : Int))) < List.length v9))
    (let r2 : Rs := (Rt.res (m_R03_Leaves [U.i (cI (el v0 v2) 0), U.i (cI (el v9 (w64 (ln v9 - (2 : Int)))) 0), U.i (cI (el v9 (w64 (ln v9 - (1 : Int)))) 0)]))
    (.test (ok r2 0)
    (.test (!uB (out r2 0) 1)
    (.stop 0 [.i ((30 : Int)), .i v6, .i v7, .s v8])
    (let r3 : Rs := (Rt.res (m_R03_do [U.i (cI (el v0 v2) 0), U.i (cI (el v9 (w64 (ln v9 - (2 : Int)))) 0), U.i (cI (el v9 (w64 (ln v9 - (2 : Int)))) 1), U.s (cS (el v9 (w64 (ln v9 - (2 : Int)))) 2), U.i (cI (el v9 (w64 (ln v9 - (1 : Int)))) 0), U.i (cI (el v9 (w64 (ln v9 - (1 : Int)))) 1), U.s (cS (el v9 (w64 (ln v9 - (1 : Int)))) 2)]))
    (.test (ok r3 0)
    (.test (!uB (out r3 0) 3)
    (.stop 0 [.i ((31 : Int)), .i v6, .i v7, .s v8])
    (.test (decide ((0 : Int) ≤ (0 : Int) ∧ (0 : Int) ≤ w64 (ln v9 - uI (out r0 0) 0) ∧ w64 (ln v9 - uI (out r0 0) 0) ≤ ln v9))
    (.test (decide (0 + (Int.toNat (w64 (ln v9 - uI (out r0 0) 0)) - 0) ≤ List.length v9))
    (.test (decide ((0 + List.length (List.take (Int.toNat (w64 (ln v9 - uI (out r0 0) 0)) - 0) v9)) * 32 ≤ 140737488355328))
    (.test (decide ((List.length ([] ++ List.take (Int.toNat (w64 (ln v9 - uI (out r0 0) 0)) - 0) v9) + 1) * 32 ≤ 140737488355328))
    (.next [.l v0, .l v1, .i (w64 (v2 + (1 : Int))), .i v3, .i v4, .s v5, .i v6, .i v7, .s v8, .l ([] ++ List.take (Int.toNat (w64 (ln v9 - uI (out r0 0) 0)) - 0) v9 ++ [[pI (uI (out r3 0) 0), pI (uI (out r3 0) 1), pS (uS (out r3 0) 2)]])])
    .fail)
    .fail)
    .fail)
    .fail))
    .fail)))
    .fail))
    .fail)
    .fail)
    (let r4 : Rs := (Rt.res (m_R03_Leaves [U.i (cI (el v0 v2) 0), U.i v6, U.i (cI (el v9 (w64 (ln v9 - (1 : Int)))) 0)]))
    (.test (ok r4 0)
    (.test (!uB (out r4 0) 1)
    (.stop 0 [.i ((30 : Int)), .i v6, .i v7, .s v8])
    (let r5 : Rs := (Rt.res (m_R03_do [U.i (cI (el v0 v2) 0), U.i v6, U.i v7, U.s v8, U.i (cI (el v9 (w64 (ln v9 - (1 : Int)))) 0), U.i (cI (el v9 (w64 (ln v9 - (1 : Int)))) 1), U.s (cS (el v9 (w64 (ln v9 - (1 : Int)))) 2)]))
    (.test (ok r5 0)
    (.test (!uB (out r5 0) 3)
    (.stop 0 [.i ((31 : Int)), .i v6, .i v7, .s v8])
    (.test (decide ((0 : Int) ≤ (0 : Int) ∧ (0 : Int) ≤ w64 (ln v9 - uI (out r0 0) 0) ∧ w64 (ln v9 - uI (out r0 0) 0) ≤ ln v9))
    (.test (decide (0 + (Int.toNat (w64 (ln v9 - uI (out r0 0) 0)) - 0) ≤ List.length v9))
    (.test (decide ((0 + List.length (List.take (Int.toNat (w64 (ln v9 - uI (out r0 0) 0)) - 0) v9)) * 32 ≤ 140737488355328))
    (.test (decide ((List.length ([] ++ List.take (Int.toNat (w64 (ln v9 - uI (out r0 0) 0)) - 0) v9) + 1) * 32 ≤ 140737488355328))
    (.next [.l v0, .l v1, .i (w64 (v2 + (1 : Int))), .i v3, .i v4, .s v5, .i v6, .i v7, .s v8, .l ([] ++ List.take (Int.toNat (w64 (ln v9 - uI (out r0 0) 0)) - 0) v9 ++ [[pI (uI (out r5 0) 0), pI (uI (out r5 0) 1), pS (uS (out r5 0) 2)]])])
    .fail)
    .fail)
    .fail)
    .fail))
    .fail)))
    .fail)))
    .fail)
    .fail)))))
    .fail))
    .fail)
    (.stop 1 [.i v3, .i v4, .s v5, .i v6, .i v7, .s v8, .l v9]))
  | _ => .fail
def sp_R03_Eval_8_6 : LSp := ⟨137, ⟨[(0, .one (.l 36)), (1, .one (.l 31)), (4, .one (.ptr 0 0)), (6, .one (.ptr 1 0)), (7, .one (.all 2)), (8, .one (.i .i64))], [.box 31 [.one (.i .i64), .one (.i .i64), .one (.s)], .box 31 [.one (.i .i64), .one (.i .i64), .one (.s)], .arr 31 true]⟩, [(.ret, ⟨[(4, .one (.ptr 0 0)), (5, .one (.i .i64))], [.box 31 [.one (.i .i64), .one (.i .i64), .one (.s)]]⟩), (.exit 0, ⟨[(4, .one (.ptr 0 0)), (6, .one (.ptr 1 0)), (7, .one (.all 2))], [.box 31 [.one (.i .i64), .one (.i .i64), .one (.s)], .box 31 [.one (.i .i64), .one (.i .i64), .one (.s)], .arr 31 true]⟩)]⟩
set_option maxRecDepth 100000 in
theorem rq_R03_Eval_8_6 (v0 : List (List PV)) (v1 : List (List PV)) (v2 : Int) (v3 : Int) (v4 : Int) (v5 : ByteArray) (v6 : Int) (v7 : Int) (v8 : ByteArray) (v9 : List (List PV)) : runK br Tryz.prog (callK br Tryz.prog X45 M_R03_Eval L_R03_Eval (lsT []) 40) M_R03_Eval (lsT [] 8 0) 40 0 (L_R03_Eval 8) (bodyOf Tryz.prog 8 6) (sp_R03_Eval_8_6.s.ts sp_R03_Eval_8_6.n [.l v0, .l v1, .i v2, .i v3, .i v4, .s v5, .i v6, .i v7, .s v8, .l v9]) (sp_R03_Eval_8_6.s.h [.l v0, .l v1, .i v2, .i v3, .i v4, .s v5, .i v6, .i v7, .s v8, .l v9]) (idc Tryz.prog 0 (L_R03_Eval 8) 6) =
    (rd_R03_Eval_8_6 [.l v0, .l v1, .i v2, .i v3, .i v4, .s v5, .i v6, .i v7, .s v8, .l v9]).go br (fun us' => some (.normal, sp_R03_Eval_8_6.s.ts sp_R03_Eval_8_6.n us', sp_R03_Eval_8_6.s.h us')) sp_R03_Eval_8_6.fin := by
  rw [← callF_eq, ← runF_eq]; kernel_rfl
theorem lo_R03_Eval_8_6 {R : Type} : LoopTells Tryz.prog X45 M_R03_Eval L_R03_Eval 0 (L_R03_Eval 8) (bodyOf Tryz.prog 8 6) (gL (R := R) sp_R03_Eval_8_6 rd_R03_Eval_8_6 br) :=
  loopTold (callK_ev (loopsOK_list rids noneIn) 40) (lsokIn (loopsOK_list rids noneIn) 8 0 6) (by kernel_rfl) sp_R03_Eval_8_6 rd_R03_Eval_8_6 rfl (by kernel_rfl) (by
    intro us v h; unfold rd_R03_Eval_8_6 at h; split at h
    · rename_i v0 v1 v2 v3 v4 v5 v6 v7 v8 v9; exact rq_R03_Eval_8_6 v0 v1 v2 v3 v4 v5 v6 v7 v8 v9
    · cases h)
noncomputable abbrev ll_R03_Eval_8_6 {R : Type} : List (Nat × Nat × Nat × Smy R) := (8, 0, 6, gL sp_R03_Eval_8_6 rd_R03_Eval_8_6 br) :: []
theorem lk_R03_Eval_8_6 {R : Type} : ∀ e ∈ ll_R03_Eval_8_6 (R := R), LoopTells Tryz.prog X45 M_R03_Eval L_R03_Eval e.2.1 (L_R03_Eval e.1) (bodyOf Tryz.prog e.1 e.2.2.1) e.2.2.2 := List.forall_mem_cons.2 ⟨lo_R03_Eval_8_6, noneIn⟩
def S_R03_Eval : FSp := ⟨[.one (.l 36), .one (.l 31)], [], [], [([.agg [.i .i64, .i .i64, .s], .one (.i .i64)], [])]⟩
noncomputable def m_R03_Eval : List U → Rt
  | [.l v0, .l v1] =>
    (.test (decide (ln v0 > (100 : Int)))
    (.stop 0 [.i ((0 : Int)), .i ((0 : Int)), .s ({ data := #[] }), .i ((1 : Int))])
    (let r0 : Rs := (lres rd_R03_Eval_8_6 [U.l v0, U.l v1, U.i (0 : Int), U.i (0 : Int), U.i (0 : Int), U.s { data := #[] }, U.i (0 : Int), U.i (0 : Int), U.s { data := #[] }, U.l []])
    (.test (ok r0 0)
    (.stop 0 [.i (uI (out r0 0) 1), .i (uI (out r0 0) 2), .s (uS (out r0 0) 3), .i (uI (out r0 0) 0)])
    (.test (ok r0 1)
    (.test (ln (uL (out r0 1) 6) != (1 : Int))
    (.stop 0 [.i (uI (out r0 1) 3), .i (uI (out r0 1) 4), .s (uS (out r0 1) 5), .i ((30 : Int))])
    (.test (inR (0 : Int) (ln (uL (out r0 1) 6)))
    (.test (decide (0 < List.length (uL (out r0 1) 6)))
    (.stop 0 [.i (cI (List.getD (uL (out r0 1) 6) 0 []) 0), .i (cI (List.getD (uL (out r0 1) 6) 0 []) 1), .s (cS (List.getD (uL (out r0 1) 6) 0 []) 2), .i ((0 : Int))])
    .fail)
    .fail))
    .fail))))
  | _ => .fail
set_option maxRecDepth 100000 in
theorem q_R03_Eval (v0 : List (List PV)) (v1 : List (List PV)) : callK br Tryz.prog X45 M_R03_Eval L_R03_Eval (lsT ll_R03_Eval_8_6) 60 8 (encs [.l v0, .l v1] 0 S_R03_Eval.ap) (encH [.l v0, .l v1] (ws S_R03_Eval.ap) S_R03_Eval.ah) (fun y => fixR Tryz.prog S_R03_Eval.plan S_R03_Eval.ah.length y) =
    (m_R03_Eval [.l v0, .l v1]).go br (fun _ => none) S_R03_Eval.fin := by
  rw [← callF_eq]; kernel_rfl
theorem e_R03_Eval : EOK Tryz.prog 8 (gF S_R03_Eval m_R03_Eval) :=
  eokTold mixed named x45 (loopsOK_list rids lk_R03_Eval_8_6) 60 S_R03_Eval m_R03_Eval (by
    intro us v h; unfold m_R03_Eval at h; split at h
    · rename_i v0 v1; exact q_R03_Eval v0 v1
    · cases h) false
noncomputable abbrev X46 : Ext := extT [(8, (gF S_R03_Eval m_R03_Eval))] X45
theorem x46 : XOK Tryz.prog X46 := xok1 x45 e_R03_Eval

/-- levee/leveelaw03.ExprParts -/
def L_L03_ExprParts : FuncId → Nat → Option (List Nat) := liveT []
def M_L03_ExprParts : FuncId → Bool := fun _ => false
def S_L03_ExprParts : FSp := ⟨[.agg [.l 36, .l 36, .i .i64, .l 31]], [], [], [([.one (.b)], [])]⟩
noncomputable def m_L03_ExprParts : List U → Rt
  | [.l v0, .l v1, .i v2, .l v3] =>
    (let r0 : Rs := (Rt.res (m_R03_Big [U.l v0]))
    (.test (ok r0 0)
    (.test (uB (out r0 0) 0)
    (.stop 0 [.b true])
    (let r1 : Rs := (Rt.res (m_R03_Big [U.l v1]))
    (.test (ok r1 0)
    (.test (uB (out r1 0) 0)
    (.stop 0 [.b true])
    (.test (decide (ln v0 > (40 : Int)))
    (.stop 0 [.b true])
    (.test (decide (ln v1 > (40 : Int)))
    (.stop 0 [.b true])
    (.test (decide (v2 < (2 : Int)))
    (.stop 0 [.b true])
    (.test (decide (v2 > (8 : Int)))
    (.stop 0 [.b true])
    (.test (decide (ln v3 > (40 : Int)))
    (.stop 0 [.b true])
    (let r2 : Rs := (Rt.res (m_expr_Eval [U.l v0, U.l v3]))
    (.test (ok r2 0)
    (let r3 : Rs := (Rt.res (m_expr_Eval [U.l v1, U.l v3]))
    (.test (ok r3 0)
    (.test (uI (out r2 0) 3 == (30 : Int))
    (.stop 0 [.b true])
    (.test (uI (out r3 0) 3 == (30 : Int))
    (.stop 0 [.b true])
    (.test (decide ((0 + List.length v0) * 48 ≤ 140737488355328))
    (.test (decide ((List.length v0 + List.length v1) * 48 ≤ 140737488355328))
    (.test (decide ((List.length (v0 ++ v1) + 1) * 48 ≤ 140737488355328))
    (let r4 : Rs := (Rt.res (m_expr_Eval [U.l (v0 ++ v1 ++ [[pI v2, pI (0 : Int), pI (0 : Int), pI (0 : Int), pS { data := #[] }]]), U.l v3]))
    (.test (ok r4 0)
    (.test (uI (out r2 0) 3 != (0 : Int))
    (.stop 0 [.b (uI (out r4 0) 3 == uI (out r2 0) 3)])
    (.test (uI (out r3 0) 3 != (0 : Int))
    (.stop 0 [.b (uI (out r4 0) 3 == uI (out r3 0) 3)])
    (let r5 : Rs := (Rt.res (m_R03_Eval [U.l [[pI (0 : Int), pI (0 : Int), pI (0 : Int), pI (0 : Int), pS { data := #[] }], [pI (0 : Int), pI (1 : Int), pI (0 : Int), pI (0 : Int), pS { data := #[] }], [pI v2, pI (0 : Int), pI (0 : Int), pI (0 : Int), pS { data := #[] }]], U.l [[pI (uI (out r2 0) 0), pI (uI (out r2 0) 1), pS (uS (out r2 0) 2)], [pI (uI (out r3 0) 0), pI (uI (out r3 0) 1), pS (uS (out r3 0) 2)]]]))
    (.test (ok r5 0)
    (.test (uI (out r4 0) 0 == uI (out r5 0) 0 && (uI (out r4 0) 1 == uI (out r5 0) 1 && (ByteArray.toList (uS (out r4 0) 2) == ByteArray.toList (uS (out r5 0) 2) && true)))
    (.stop 0 [.b (uI (out r4 0) 3 == uI (out r5 0) 3)])
    (.stop 0 [.b false]))
    .fail))))
    .fail))
    .fail)
    .fail)
    .fail)))
    .fail))
    .fail))))))))
    .fail)))
    .fail))
  | _ => .fail
set_option maxRecDepth 100000 in
theorem q_L03_ExprParts (v0 : List (List PV)) (v1 : List (List PV)) (v2 : Int) (v3 : List (List PV)) : callK br Tryz.prog X46 M_L03_ExprParts L_L03_ExprParts (lsT []) 60 3 (encs [.l v0, .l v1, .i v2, .l v3] 0 S_L03_ExprParts.ap) (encH [.l v0, .l v1, .i v2, .l v3] (ws S_L03_ExprParts.ap) S_L03_ExprParts.ah) (fun y => fixR Tryz.prog S_L03_ExprParts.plan S_L03_ExprParts.ah.length y) =
    (m_L03_ExprParts [.l v0, .l v1, .i v2, .l v3]).go br (fun _ => none) S_L03_ExprParts.fin := by
  rw [← callF_eq]; kernel_rfl
theorem e_L03_ExprParts : EOK Tryz.prog 3 (gF S_L03_ExprParts m_L03_ExprParts) :=
  eokTold mixed named x46 (loopsOK_list rids noneIn) 60 S_L03_ExprParts m_L03_ExprParts (by
    intro us v h; unfold m_L03_ExprParts at h; split at h
    · rename_i v0 v1 v2 v3; exact q_L03_ExprParts v0 v1 v2 v3
    · cases h) false
noncomputable abbrev X47 : Ext := extT [(3, (gF S_L03_ExprParts m_L03_ExprParts))] X46
theorem x47 : XOK Tryz.prog X47 := xok1 x46 e_L03_ExprParts

end Go.Proofs.YthmljoalohpafaaGreatDoor






