/- Texts of this seat, one behind the other. -/
import Derived.Test.YtikmahlogjcieaaGreatKX
import Derived.Test.YtikmahlogjcieaaGreatTE
set_option linter.unusedVariables false
namespace Go.Proofs.YtikmahlogjcieaaGreat
open Go Go.Pu

def L_bag_Sum : FuncId → Nat → Option (List Nat) := liveT [(36, 7, [0, 3, 4, 5]), (36, 1000007, [0, 3, 4, 5]), (36, 2000007, [2]), (36, 5, [0, 109000003, 4]), (36, 1000005, [3]), (36, 2000005, [2])]
def M_bag_Sum : FuncId → Bool := fun f => f == 62
noncomputable def rd_bag_Sum_36_7 : List U → Rt
  | [.i v0, .l v1, .l v2, .i v3, .l v4] =>
    (.test (decide (v0 < ln v1))
    (.test (inR v0 (ln v1))
    (.test (decide (Int.toNat v0 < List.length v1))
    (let r0 : Rs := (Rt.res (m_row_Compare [U.l (cL (el v1 v0) 0), U.l v4]))
    (.test (ok r0 0)
    (.test (uI (out r0 0) 0 == (0 : Int))
    (.test (inR v0 (ln v1))
    (.test (decide (Int.toNat v0 < List.length v1))
    (.next [.i (w64 (v0 + (1 : Int))), .l v1, .l v2, .i (w64 (v3 + cI (el v1 v0) 1)), .l v4])
    .fail)
    .fail)
    (.stop 0 [.i v0, .l v1, .l v2, .i v3, .l v4]))
    .fail))
    .fail)
    .fail)
    (.stop 0 [.i v0, .l v1, .l v2, .i v3, .l v4]))
  | _ => .fail
def sp_bag_Sum_36_7 : LSp := ⟨55, ⟨[(0, .one (.all 0)), (3, .one (.all 1)), (4, .one (.i .i64)), (5, .one (.ptr 2 0))], [.arr 54 true, .arr 54 true, .box 54 [.one (.all 3), .one (.i .i64)], .arr 56 true]⟩, [(.exit 2, ⟨[(0, .one (.all 0)), (3, .one (.all 1)), (4, .one (.i .i64)), (5, .one (.ptr 2 0))], [.arr 54 true, .arr 54 true, .box 54 [.one (.all 3), .one (.i .i64)], .arr 56 true]⟩)]⟩
set_option maxRecDepth 100000 in
theorem rq_bag_Sum_36_7 (v0 : Int) (v1 : List (List PV)) (v2 : List (List PV)) (v3 : Int) (v4 : List (List PV)) : runK br Tryz.prog (callK br Tryz.prog XJ M_bag_Sum L_bag_Sum (lsT []) 40) M_bag_Sum (lsT [] 36 0) 40 0 (L_bag_Sum 36) (bodyOf Tryz.prog 36 7) (sp_bag_Sum_36_7.s.ts sp_bag_Sum_36_7.n [.i v0, .l v1, .l v2, .i v3, .l v4]) (sp_bag_Sum_36_7.s.h [.i v0, .l v1, .l v2, .i v3, .l v4]) (idc Tryz.prog 0 (L_bag_Sum 36) 7) =
    (rd_bag_Sum_36_7 [.i v0, .l v1, .l v2, .i v3, .l v4]).go br (fun us' => some (.normal, sp_bag_Sum_36_7.s.ts sp_bag_Sum_36_7.n us', sp_bag_Sum_36_7.s.h us')) sp_bag_Sum_36_7.fin := by
  rw [← callF_eq, ← runF_eq]; kernel_rfl
theorem lo_bag_Sum_36_7 {R : Type} : LoopTells Tryz.prog XJ M_bag_Sum L_bag_Sum 0 (L_bag_Sum 36) (bodyOf Tryz.prog 36 7) (gL (R := R) sp_bag_Sum_36_7 rd_bag_Sum_36_7 br) :=
  loopTold (callK_ev (loopsOK_list rids noneIn) 40) (lsokIn (loopsOK_list rids noneIn) 36 0 7) (by kernel_rfl) sp_bag_Sum_36_7 rd_bag_Sum_36_7 rfl (by kernel_rfl) (by
    intro us v h; unfold rd_bag_Sum_36_7 at h; split at h
    · rename_i v0 v1 v2 v3 v4; exact rq_bag_Sum_36_7 v0 v1 v2 v3 v4
    · cases h)
noncomputable abbrev ll_bag_Sum_36_7 {R : Type} : List (Nat × Nat × Nat × Smy R) := (36, 0, 7, gL sp_bag_Sum_36_7 rd_bag_Sum_36_7 br) :: []
theorem lk_bag_Sum_36_7 {R : Type} : ∀ e ∈ ll_bag_Sum_36_7 (R := R), LoopTells Tryz.prog XJ M_bag_Sum L_bag_Sum e.2.1 (L_bag_Sum e.1) (bodyOf Tryz.prog e.1 e.2.2.1) e.2.2.2 := List.forall_mem_cons.2 ⟨lo_bag_Sum_36_7, noneIn⟩
noncomputable def rd_bag_Sum_36_5 : List U → Rt
  | [.i v0, .l v1, .l v2] =>
    (.test (decide (v0 < ln v1))
    (.test (inR v0 (ln v1))
    (.test (decide (Int.toNat v0 < List.length v1))
    (.test (decide ((0 + List.length (cL (el v1 v0) 0)) * 32 ≤ 140737488355328))
    (let r0 : Rs := (lres rd_bag_Sum_36_7 [U.i v0, U.l v1, U.l v2, U.i (0 : Int), U.l (cL (el v1 v0) 0)])
    (.test (ok r0 0)
    (.test (uI (out r0 0) 3 != (0 : Int))
    (.test (decide ((List.length (uL (out r0 0) 2) + 1) * 32 ≤ 140737488355328))
    (.next [.i (uI (out r0 0) 0), .l (uL (out r0 0) 1), .l (uL (out r0 0) 2 ++ [[PV.lst 56 (uL (out r0 0) 4), pI (uI (out r0 0) 3)]])])
    .fail)
    (.next [.i (uI (out r0 0) 0), .l (uL (out r0 0) 1), .l (uL (out r0 0) 2)]))
    .fail))
    .fail)
    .fail)
    .fail)
    (.stop 0 [.l v2]))
  | _ => .fail
def sp_bag_Sum_36_5 : LSp := ⟨55, ⟨[(0, .one (.all 0)), (3, .one (.all 1)), (4, .one (.i .i64))], [.arr 54 true, .arr 54 true]⟩, [(.exit 0, ⟨[(3, .one (.all 0))], [.arr 54 true]⟩)]⟩
set_option maxRecDepth 100000 in
theorem rq_bag_Sum_36_5 (v0 : Int) (v1 : List (List PV)) (v2 : List (List PV)) : runK br Tryz.prog (callK br Tryz.prog XJ M_bag_Sum L_bag_Sum (lsT ll_bag_Sum_36_7) 40) M_bag_Sum (lsT ll_bag_Sum_36_7 36 0) 40 0 (L_bag_Sum 36) (bodyOf Tryz.prog 36 5) (sp_bag_Sum_36_5.s.ts sp_bag_Sum_36_5.n [.i v0, .l v1, .l v2]) (sp_bag_Sum_36_5.s.h [.i v0, .l v1, .l v2]) (idc Tryz.prog 0 (L_bag_Sum 36) 5) =
    (rd_bag_Sum_36_5 [.i v0, .l v1, .l v2]).go br (fun us' => some (.normal, sp_bag_Sum_36_5.s.ts sp_bag_Sum_36_5.n us', sp_bag_Sum_36_5.s.h us')) sp_bag_Sum_36_5.fin := by
  rw [← callF_eq, ← runF_eq]; kernel_rfl
theorem lo_bag_Sum_36_5 {R : Type} : LoopTells Tryz.prog XJ M_bag_Sum L_bag_Sum 0 (L_bag_Sum 36) (bodyOf Tryz.prog 36 5) (gL (R := R) sp_bag_Sum_36_5 rd_bag_Sum_36_5 br) :=
  loopTold (callK_ev (loopsOK_list rids lk_bag_Sum_36_7) 40) (lsokIn (loopsOK_list rids lk_bag_Sum_36_7) 36 0 5) (by kernel_rfl) sp_bag_Sum_36_5 rd_bag_Sum_36_5 rfl (by kernel_rfl) (by
    intro us v h; unfold rd_bag_Sum_36_5 at h; split at h
    · rename_i v0 v1 v2; exact rq_bag_Sum_36_5 v0 v1 v2
    · cases h)
noncomputable abbrev ll_bag_Sum_36_5 {R : Type} : List (Nat × Nat × Nat × Smy R) := (36, 0, 5, gL sp_bag_Sum_36_5 rd_bag_Sum_36_5 br) :: ll_bag_Sum_36_7
theorem lk_bag_Sum_36_5 {R : Type} : ∀ e ∈ ll_bag_Sum_36_5 (R := R), LoopTells Tryz.prog XJ M_bag_Sum L_bag_Sum e.2.1 (L_bag_Sum e.1) (bodyOf Tryz.prog e.1 e.2.2.1) e.2.2.2 := List.forall_mem_cons.2 ⟨lo_bag_Sum_36_5, lk_bag_Sum_36_7⟩
def S_bag_Sum : FSp := ⟨[.one (.l 54)], [], [], [([.one (.all 0)], [.arr 54 true])]⟩
noncomputable def m_bag_Sum : List U → Rt
  | [.l v0] =>
    (.test (decide ((0 + List.length v0) * 32 ≤ 140737488355328))
    (let r0 : Rs := (Rt.res (m_slices_SortStableFunc_ [U.l v0]))
    (.test (ok r0 0)
    (let r1 : Rs := (lres rd_bag_Sum_36_5 [U.i (0 : Int), U.l (uL (out r0 0) 0), U.l []])
    (.test (ok r1 0)
    (.stop 0 [.l (uL (out r1 0) 0)])
    .fail))
    .fail))
    .fail)
  | _ => .fail
set_option maxRecDepth 100000 in
theorem q_bag_Sum (v0 : List (List PV)) : callK br Tryz.prog XJ M_bag_Sum L_bag_Sum (lsT ll_bag_Sum_36_5) 60 36 (encs [.l v0] 0 S_bag_Sum.ap) (encH [.l v0] (ws S_bag_Sum.ap) S_bag_Sum.ah) (fun y => fixR Tryz.prog S_bag_Sum.plan S_bag_Sum.ah.length y) =
    (m_bag_Sum [.l v0]).go br (fun _ => none) S_bag_Sum.fin := by
  rw [← callF_eq]; kernel_rfl
theorem e_bag_Sum : EOK Tryz.prog 36 (gF S_bag_Sum m_bag_Sum) :=
  eokTold mixed named xJ (loopsOK_list rids lk_bag_Sum_36_5) 60 S_bag_Sum m_bag_Sum (by
    intro us v h; unfold m_bag_Sum at h; split at h
    · rename_i v0; exact q_bag_Sum v0
    · cases h) false
noncomputable abbrev X101 : Ext := extT [(36, (gF S_bag_Sum m_bag_Sum))] XJ
theorem x101 : XOK Tryz.prog X101 := xok1 xJ e_bag_Sum

def L_bag_fits : FuncId → Nat → Option (List Nat) := liveT []
def M_bag_fits : FuncId → Bool := fun _ => false
def S_bag_fits : FSp := ⟨[.one (.i .i64)], [], [], [([.one (.b)], [])]⟩
noncomputable def m_bag_fits : List U → Rt
  | [.i v0] =>
    (.test (decide (v0 ≥ (-1000000000 : Int)))
    (.stop 0 [.b (decide (v0 ≤ (1000000000 : Int)))])
    (.stop 0 [.b false]))
  | _ => .fail
set_option maxRecDepth 100000 in
theorem q_bag_fits (v0 : Int) : callK br Tryz.prog X101 M_bag_fits L_bag_fits (lsT []) 60 53 (encs [.i v0] 0 S_bag_fits.ap) (encH [.i v0] (ws S_bag_fits.ap) S_bag_fits.ah) (fun y => fixR Tryz.prog S_bag_fits.plan S_bag_fits.ah.length y) =
    (m_bag_fits [.i v0]).go br (fun _ => none) S_bag_fits.fin := by
  rw [← callF_eq]; kernel_rfl
theorem e_bag_fits : EOK Tryz.prog 53 (gF S_bag_fits m_bag_fits) :=
  eokTold mixed named x101 (loopsOK_list rids noneIn) 60 S_bag_fits m_bag_fits (by
    intro us v h; unfold m_bag_fits at h; split at h
    · rename_i v0; exact q_bag_fits v0
    · cases h) false
noncomputable abbrev X102 : Ext := extT [(53, (gF S_bag_fits m_bag_fits))] X101
theorem x102 : XOK Tryz.prog X102 := xok1 x101 e_bag_fits

def L_value_May : FuncId → Nat → Option (List Nat) := liveT []
def M_value_May : FuncId → Bool := fun _ => false
def S_value_May : FSp := ⟨[.agg [.i .i64, .i .i64, .s]], [], [], [([.one (.b)], [])]⟩
noncomputable def m_value_May : List U → Rt
  | [.i v0, .i v1, .s v2] =>
    (.test (v0 == (0 : Int))
    (.stop 0 [.b (v0 == (0 : Int) && (v1 == (0 : Int) && (ByteArray.toList v2 == [] && true)))])
    (.test (v0 == (1 : Int))
    (.test (v1 == (0 : Int))
    (.stop 0 [.b (ByteArray.toList v2 == [])])
    (.test (v1 == (1 : Int))
    (.stop 0 [.b (ByteArray.toList v2 == [])])
    (.stop 0 [.b false])))
    (.test (v0 == (2 : Int))
    (.stop 0 [.b (ByteArray.toList v2 == [])])
    (.test (v0 == (3 : Int))
    (.test (v1 == (0 : Int))
    (.stop 0 [.b (decide ((↑(ByteArray.size v2) : Int) ≤ (1000 : Int)))])
    (.stop 0 [.b false]))
    (.stop 0 [.b false])))))
  | _ => .fail
set_option maxRecDepth 100000 in
theorem q_value_May (v0 : Int) (v1 : Int) (v2 : ByteArray) : callK br Tryz.prog X102 M_value_May L_value_May (lsT []) 60 58 (encs [.i v0, .i v1, .s v2] 0 S_value_May.ap) (encH [.i v0, .i v1, .s v2] (ws S_value_May.ap) S_value_May.ah) (fun y => fixR Tryz.prog S_value_May.plan S_value_May.ah.length y) =
    (m_value_May [.i v0, .i v1, .s v2]).go br (fun _ => none) S_value_May.fin := by
  rw [← callF_eq]; kernel_rfl
theorem e_value_May : EOK Tryz.prog 58 (gF S_value_May m_value_May) :=
  eokTold mixed named x102 (loopsOK_list rids noneIn) 60 S_value_May m_value_May (by
    intro us v h; unfold m_value_May at h; split at h
    · rename_i v0 v1 v2; exact q_value_May v0 v1 v2
    · cases h) false
noncomputable abbrev X103 : Ext := extT [(58, (gF S_value_May m_value_May))] X102
theorem x103 : XOK Tryz.prog X103 := xok1 x102 e_value_May

def L_row_May : FuncId → Nat → Option (List Nat) := liveT [(86, 2, [0, 1, 7, 8]), (86, 1000002, []), (86, 2000002, [4])]
def M_row_May : FuncId → Bool := fun _ => false
noncomputable def rd_row_May_86_2 : List U → Rt
  | [.l v0, .i v1, .i v2] =>
    (.test (decide (v2 < v1))
    (.test (inR v2 (ln v0))
    (let r0 : Rs := (Rt.res (m_value_May [U.i (cI (el v0 v2) 0), U.i (cI (el v0 v2) 1), U.s (cS (el v0 v2) 2)]))
    (.test (ok r0 0)
    (.test (!uB (out r0 0) 0)
    (.stop 0 [.i v2])
    (.next [.l v0, .i v1, .i (w64 (v2 + (1 : Int)))]))
    .fail))
    .fail)
    (.stop 1 []))
  | _ => .fail
def sp_row_May_86_2 : LSp := ⟨19, ⟨[(0, .one (.l 56)), (1, .fn 74 []), (7, .one (.i .i64)), (8, .one (.i .i64))], []⟩, [(.ret, ⟨[(4, .one (.i .i64))], []⟩), (.exit 0, ⟨[], []⟩)]⟩
set_option maxRecDepth 100000 in
theorem rq_row_May_86_2 (v0 : List (List PV)) (v1 : Int) (v2 : Int) : runK br Tryz.prog (callK br Tryz.prog X103 M_row_May L_row_May (lsT []) 40) M_row_May (lsT [] 86 0) 40 0 (L_row_May 86) (bodyOf Tryz.prog 86 2) (sp_row_May_86_2.s.ts sp_row_May_86_2.n [.l v0, .i v1, .i v2]) (sp_row_May_86_2.s.h [.l v0, .i v1, .i v2]) (idc Tryz.prog 0 (L_row_May 86) 2) =
    (rd_row_May_86_2 [.l v0, .i v1, .i v2]).go br (fun us' => some (.normal, sp_row_May_86_2.s.ts sp_row_May_86_2.n us', sp_row_May_86_2.s.h us')) sp_row_May_86_2.fin := by
  rw [← callF_eq, ← runF_eq]; kernel_rfl
theorem lo_row_May_86_2 {R : Type} : LoopTells Tryz.prog X103 M_row_May L_row_May 0 (L_row_May 86) (bodyOf Tryz.prog 86 2) (gL (R := R) sp_row_May_86_2 rd_row_May_86_2 br) :=
  loopTold (callK_ev (loopsOK_list rids noneIn) 40) (lsokIn (loopsOK_list rids noneIn) 86 0 2) (by kernel_rfl) sp_row_May_86_2 rd_row_May_86_2 rfl (by kernel_rfl) (by
    intro us v h; unfold rd_row_May_86_2 at h; split at h
    · rename_i v0 v1 v2; exact rq_row_May_86_2 v0 v1 v2
    · cases h)
noncomputable abbrev ll_row_May_86_2 {R : Type} : List (Nat × Nat × Nat × Smy R) := (86, 0, 2, gL sp_row_May_86_2 rd_row_May_86_2 br) :: []
theorem lk_row_May_86_2 {R : Type} : ∀ e ∈ ll_row_May_86_2 (R := R), LoopTells Tryz.prog X103 M_row_May L_row_May e.2.1 (L_row_May e.1) (bodyOf Tryz.prog e.1 e.2.2.1) e.2.2.2 := List.forall_mem_cons.2 ⟨lo_row_May_86_2, noneIn⟩
def S_row_May : FSp := ⟨[.one (.l 56)], [], [], [([.one (.b)], [])]⟩
noncomputable def m_row_May : List U → Rt
  | [.l v0] =>
    (.test (decide (ln v0 ≤ (40 : Int)))
    (let r0 : Rs := (lres rd_row_May_86_2 [U.l v0, U.i (ln v0), U.i (0 : Int)])
    (.test (ok r0 0)
    (.stop 0 [.b (!decide (uI (out r0 0) 0 ≥ (0 : Int)))])
    (.test (ok r0 1)
    (.stop 0 [.b true])
    .fail)))
    (.stop 0 [.b false]))
  | _ => .fail
set_option maxRecDepth 100000 in
theorem q_row_May (v0 : List (List PV)) : callK br Tryz.prog X103 M_row_May L_row_May (lsT ll_row_May_86_2) 60 54 (encs [.l v0] 0 S_row_May.ap) (encH [.l v0] (ws S_row_May.ap) S_row_May.ah) (fun y => fixR Tryz.prog S_row_May.plan S_row_May.ah.length y) =
    (m_row_May [.l v0]).go br (fun _ => none) S_row_May.fin := by
  rw [← callF_eq]; kernel_rfl
theorem e_row_May : EOK Tryz.prog 54 (gF S_row_May m_row_May) :=
  eokTold mixed named x103 (loopsOK_list rids lk_row_May_86_2) 60 S_row_May m_row_May (by
    intro us v h; unfold m_row_May at h; split at h
    · rename_i v0; exact q_row_May v0
    · cases h) false
noncomputable abbrev X104 : Ext := extT [(54, (gF S_row_May m_row_May))] X103
theorem x104 : XOK Tryz.prog X104 := xok1 x103 e_row_May

def L_bag_May : FuncId → Nat → Option (List Nat) := liveT [(30, 2, [0, 5, 6, 7]), (30, 1000002, []), (30, 2000002, [2])]
def M_bag_May : FuncId → Bool := fun _ => false
noncomputable def rd_bag_May_30_2 : List U → Rt
  | [.l v0, .l v1, .i v2, .i v3] =>
    (.test (decide (v3 < v2))
    (.test (inR v3 (ln v1))
    (.test (cI (el v1 v3) 1 == (0 : Int))
    (.stop 0 [.b false])
    (let r0 : Rs := (Rt.res (m_bag_fits [U.i (cI (el v1 v3) 1)]))
    (.test (ok r0 0)
    (.test (!uB (out r0 0) 0)
    (.stop 0 [.b false])
    (let r1 : Rs := (Rt.res (m_row_May [U.l (cL (el v1 v3) 0)]))
    (.test (ok r1 0)
    (.test (!uB (out r1 0) 0)
    (.stop 0 [.b false])
    (.test (decide (v3 > (0 : Int)))
    (.test (inR (w64 (v3 - (1 : Int))) (ln v0))
    (let r2 : Rs := (Rt.res (m_row_Compare [U.l (cL (el v0 (w64 (v3 - (1 : Int)))) 0), U.l (cL (el v1 v3) 0)]))
    (.test (ok r2 0)
    (.test (decide (uI (out r2 0) 0 ≥ (0 : Int)))
    (.stop 0 [.b false])
    (.next [.l v0, .l v1, .i v2, .i (w64 (v3 + (1 : Int)))]))
    .fail))
    .fail)
    (.next [.l v0, .l v1, .i v2, .i (w64 (v3 + (1 : Int)))])))
    .fail)))
    .fail)))
    .fail)
    (.stop 1 []))
  | _ => .fail
def sp_bag_May_30_2 : LSp := ⟨44, ⟨[(0, .one (.l 54)), (5, .one (.l 54)), (6, .one (.i .i64)), (7, .one (.i .i64))], []⟩, [(.ret, ⟨[(2, .one (.b))], []⟩), (.exit 0, ⟨[], []⟩)]⟩
set_option maxRecDepth 100000 in
theorem rq_bag_May_30_2 (v0 : List (List PV)) (v1 : List (List PV)) (v2 : Int) (v3 : Int) : runK br Tryz.prog (callK br Tryz.prog X104 M_bag_May L_bag_May (lsT []) 40) M_bag_May (lsT [] 30 0) 40 0 (L_bag_May 30) (bodyOf Tryz.prog 30 2) (sp_bag_May_30_2.s.ts sp_bag_May_30_2.n [.l v0, .l v1, .i v2, .i v3]) (sp_bag_May_30_2.s.h [.l v0, .l v1, .i v2, .i v3]) (idc Tryz.prog 0 (L_bag_May 30) 2) =
    (rd_bag_May_30_2 [.l v0, .l v1, .i v2, .i v3]).go br (fun us' => some (.normal, sp_bag_May_30_2.s.ts sp_bag_May_30_2.n us', sp_bag_May_30_2.s.h us')) sp_bag_May_30_2.fin := by
  rw [← callF_eq, ← runF_eq]; kernel_rfl
theorem lo_bag_May_30_2 {R : Type} : LoopTells Tryz.prog X104 M_bag_May L_bag_May 0 (L_bag_May 30) (bodyOf Tryz.prog 30 2) (gL (R := R) sp_bag_May_30_2 rd_bag_May_30_2 br) :=
  loopTold (callK_ev (loopsOK_list rids noneIn) 40) (lsokIn (loopsOK_list rids noneIn) 30 0 2) (by kernel_rfl) sp_bag_May_30_2 rd_bag_May_30_2 rfl (by kernel_rfl) (by
    intro us v h; unfold rd_bag_May_30_2 at h; split at h
    · rename_i v0 v1 v2 v3; exact rq_bag_May_30_2 v0 v1 v2 v3
    · cases h)
noncomputable abbrev ll_bag_May_30_2 {R : Type} : List (Nat × Nat × Nat × Smy R) := (30, 0, 2, gL sp_bag_May_30_2 rd_bag_May_30_2 br) :: []
theorem lk_bag_May_30_2 {R : Type} : ∀ e ∈ ll_bag_May_30_2 (R := R), LoopTells Tryz.prog X104 M_bag_May L_bag_May e.2.1 (L_bag_May e.1) (bodyOf Tryz.prog e.1 e.2.2.1) e.2.2.2 := List.forall_mem_cons.2 ⟨lo_bag_May_30_2, noneIn⟩
def S_bag_May : FSp := ⟨[.one (.l 54)], [], [], [([.one (.b)], [])]⟩
noncomputable def m_bag_May : List U → Rt
  | [.l v0] =>
    (let r0 : Rs := (lres rd_bag_May_30_2 [U.l v0, U.l v0, U.i (ln v0), U.i (0 : Int)])
    (.test (ok r0 0)
    (.stop 0 [.b (uB (out r0 0) 0)])
    (.test (ok r0 1)
    (.stop 0 [.b true])
    .fail)))
  | _ => .fail
set_option maxRecDepth 100000 in
theorem q_bag_May (v0 : List (List PV)) : callK br Tryz.prog X104 M_bag_May L_bag_May (lsT ll_bag_May_30_2) 60 30 (encs [.l v0] 0 S_bag_May.ap) (encH [.l v0] (ws S_bag_May.ap) S_bag_May.ah) (fun y => fixR Tryz.prog S_bag_May.plan S_bag_May.ah.length y) =
    (m_bag_May [.l v0]).go br (fun _ => none) S_bag_May.fin := by
  rw [← callF_eq]; kernel_rfl
theorem e_bag_May : EOK Tryz.prog 30 (gF S_bag_May m_bag_May) :=
  eokTold mixed named x104 (loopsOK_list rids lk_bag_May_30_2) 60 S_bag_May m_bag_May (by
    intro us v h; unfold m_bag_May at h; split at h
    · rename_i v0; exact q_bag_May v0
    · cases h) false
noncomputable abbrev X105 : Ext := extT [(30, (gF S_bag_May m_bag_May))] X104
theorem x105 : XOK Tryz.prog X105 := xok1 x104 e_bag_May

def L_bag_Plus : FuncId → Nat → Option (List Nat) := liveT [(31, 3, [109000003, 7, 8, 9]), (31, 1000003, [3]), (31, 2000003, [2]), (76, 2, [0, 1, 7, 8]), (76, 1000002, []), (76, 2000002, [4])]
def M_bag_Plus : FuncId → Bool := fun _ => false
noncomputable def rd_bag_Plus_31_3 : List U → Rt
  | [.l v0, .i v1, .i v2, .l v3] =>
    (.test (decide (v2 < v1))
    (.test (inR v2 (ln v0))
    (let r0 : Rs := (Rt.res (m_bag_May [U.l (cL (el v0 v2) 0)]))
    (.test (ok r0 0)
    (.test (!uB (out r0 0) 0)
    (.stop 0 [])
    (.test (decide ((List.length v3 + List.length (cL (el v0 v2) 0)) * 32 ≤ 140737488355328))
    (.next [.l v0, .i v1, .i (w64 (v2 + (1 : Int))), .l (v3 ++ cL (el v0 v2) 0)])
    .fail))
    .fail))
    .fail)
    (.stop 1 [.l v3]))
  | _ => .fail
def sp_bag_Plus_31_3 : LSp := ⟨25, ⟨[(3, .one (.all 0)), (7, .one (.l 30)), (8, .one (.i .i64)), (9, .one (.i .i64))], [.arr 54 true]⟩, [(.ret, ⟨[(2, .one (.nils))], []⟩), (.exit 0, ⟨[(3, .one (.all 0))], [.arr 54 true]⟩)]⟩
set_option maxRecDepth 100000 in
theorem rq_bag_Plus_31_3 (v0 : List (List PV)) (v1 : Int) (v2 : Int) (v3 : List (List PV)) : runK br Tryz.prog (callK br Tryz.prog X105 M_bag_Plus L_bag_Plus (lsT []) 40) M_bag_Plus (lsT [] 31 0) 40 0 (L_bag_Plus 31) (bodyOf Tryz.prog 31 3) (sp_bag_Plus_31_3.s.ts sp_bag_Plus_31_3.n [.l v0, .i v1, .i v2, .l v3]) (sp_bag_Plus_31_3.s.h [.l v0, .i v1, .i v2, .l v3]) (idc Tryz.prog 0 (L_bag_Plus 31) 3) =
    (rd_bag_Plus_31_3 [.l v0, .i v1, .i v2, .l v3]).go br (fun us' => some (.normal, sp_bag_Plus_31_3.s.ts sp_bag_Plus_31_3.n us', sp_bag_Plus_31_3.s.h us')) sp_bag_Plus_31_3.fin := by
  rw [← callF_eq, ← runF_eq]; kernel_rfl
theorem lo_bag_Plus_31_3 {R : Type} : LoopTells Tryz.prog X105 M_bag_Plus L_bag_Plus 0 (L_bag_Plus 31) (bodyOf Tryz.prog 31 3) (gL (R := R) sp_bag_Plus_31_3 rd_bag_Plus_31_3 br) :=
  loopTold (callK_ev (loopsOK_list rids noneIn) 40) (lsokIn (loopsOK_list rids noneIn) 31 0 3) (by kernel_rfl) sp_bag_Plus_31_3 rd_bag_Plus_31_3 rfl (by kernel_rfl) (by
    intro us v h; unfold rd_bag_Plus_31_3 at h; split at h
    · rename_i v0 v1 v2 v3; exact rq_bag_Plus_31_3 v0 v1 v2 v3
    · cases h)
noncomputable abbrev ll_bag_Plus_31_3 {R : Type} : List (Nat × Nat × Nat × Smy R) := (31, 0, 3, gL sp_bag_Plus_31_3 rd_bag_Plus_31_3 br) :: []
theorem lk_bag_Plus_31_3 {R : Type} : ∀ e ∈ ll_bag_Plus_31_3 (R := R), LoopTells Tryz.prog X105 M_bag_Plus L_bag_Plus e.2.1 (L_bag_Plus e.1) (bodyOf Tryz.prog e.1 e.2.2.1) e.2.2.2 := List.forall_mem_cons.2 ⟨lo_bag_Plus_31_3, noneIn⟩
noncomputable def rd_bag_Plus_76_2 : List U → Rt
  | [.l v0, .i v1, .i v2] =>
    (.test (decide (v2 < v1))
    (.test (inR v2 (ln v0))
    (let r0 : Rs := (Rt.res (m_bag_fits [U.i (cI (el v0 v2) 1)]))
    (.test (ok r0 0)
    (.test (!uB (out r0 0) 0)
    (.stop 0 [.i v2])
    (.next [.l v0, .i v1, .i (w64 (v2 + (1 : Int)))]))
    .fail))
    .fail)
    (.stop 1 []))
  | _ => .fail
def sp_bag_Plus_76_2 : LSp := ⟨19, ⟨[(0, .one (.l 54)), (1, .fn 57 []), (7, .one (.i .i64)), (8, .one (.i .i64))], []⟩, [(.ret, ⟨[(4, .one (.i .i64))], []⟩), (.exit 0, ⟨[], []⟩)]⟩
set_option maxRecDepth 100000 in
theorem rq_bag_Plus_76_2 (v0 : List (List PV)) (v1 : Int) (v2 : Int) : runK br Tryz.prog (callK br Tryz.prog X105 M_bag_Plus L_bag_Plus (lsT ll_bag_Plus_31_3) 40) M_bag_Plus (lsT ll_bag_Plus_31_3 76 0) 40 0 (L_bag_Plus 76) (bodyOf Tryz.prog 76 2) (sp_bag_Plus_76_2.s.ts sp_bag_Plus_76_2.n [.l v0, .i v1, .i v2]) (sp_bag_Plus_76_2.s.h [.l v0, .i v1, .i v2]) (idc Tryz.prog 0 (L_bag_Plus 76) 2) =
    (rd_bag_Plus_76_2 [.l v0, .i v1, .i v2]).go br (fun us' => some (.normal, sp_bag_Plus_76_2.s.ts sp_bag_Plus_76_2.n us', sp_bag_Plus_76_2.s.h us')) sp_bag_Plus_76_2.fin := by
  rw [← callF_eq, ← runF_eq]; kernel_rfl
theorem lo_bag_Plus_76_2 {R : Type} : LoopTells Tryz.prog X105 M_bag_Plus L_bag_Plus 0 (L_bag_Plus 76) (bodyOf Tryz.prog 76 2) (gL (R := R) sp_bag_Plus_76_2 rd_bag_Plus_76_2 br) :=
  loopTold (callK_ev (loopsOK_list rids lk_bag_Plus_31_3) 40) (lsokIn (loopsOK_list rids lk_bag_Plus_31_3) 76 0 2) (by kernel_rfl) sp_bag_Plus_76_2 rd_bag_Plus_76_2 rfl (by kernel_rfl) (by
    intro us v h; unfold rd_bag_Plus_76_2 at h; split at h
    · rename_i v0 v1 v2; exact rq_bag_Plus_76_2 v0 v1 v2
    · cases h)
noncomputable abbrev ll_bag_Plus_76_2 {R : Type} : List (Nat × Nat × Nat × Smy R) := (76, 0, 2, gL sp_bag_Plus_76_2 rd_bag_Plus_76_2 br) :: ll_bag_Plus_31_3
theorem lk_bag_Plus_76_2 {R : Type} : ∀ e ∈ ll_bag_Plus_76_2 (R := R), LoopTells Tryz.prog X105 M_bag_Plus L_bag_Plus e.2.1 (L_bag_Plus e.1) (bodyOf Tryz.prog e.1 e.2.2.1) e.2.2.2 := List.forall_mem_cons.2 ⟨lo_bag_Plus_76_2, lk_bag_Plus_31_3⟩
def S_bag_Plus : FSp := ⟨[.one (.l 30)], [], [109000000], [([.one (.all 0)], [.arr 54 true])]⟩
noncomputable def m_bag_Plus : List U → Rt
  | [.l v0] =>
    (let r0 : Rs := (lres rd_bag_Plus_31_3 [U.l v0, U.i (ln v0), U.i (0 : Int), U.l []])
    (.test (ok r0 0)
    (.stop 0 [.l []])
    (.test (ok r0 1)
    (let r1 : Rs := (Rt.res (m_bag_Sum [U.l (uL (out r0 1) 0)]))
    (.test (ok r1 0)
    (let r2 : Rs := (lres rd_bag_Plus_76_2 [U.l (uL (out r1 0) 0), U.i (ln (uL (out r1 0) 0)), U.i (0 : Int)])
    (.test (ok r2 0)
    (.test (decide (uI (out r2 0) 0 ≥ (0 : Int)))
    (.stop 0 [.l []])
    (.stop 0 [.l (uL (out r1 0) 0)]))
    (.test (ok r2 1)
    (.stop 0 [.l (uL (out r1 0) 0)])
    .fail)))
    .fail))
    .fail)))
  | _ => .fail
set_option maxRecDepth 100000 in
theorem q_bag_Plus (v0 : List (List PV)) : callK br Tryz.prog X105 M_bag_Plus L_bag_Plus (lsT ll_bag_Plus_76_2) 60 31 (encs [.l v0] 0 S_bag_Plus.ap) (encH [.l v0] (ws S_bag_Plus.ap) S_bag_Plus.ah) (fun y => fixR Tryz.prog S_bag_Plus.plan S_bag_Plus.ah.length y) =
    (m_bag_Plus [.l v0]).go br (fun _ => none) S_bag_Plus.fin := by
  rw [← callF_eq]; kernel_rfl
theorem e_bag_Plus : EOK Tryz.prog 31 (gF S_bag_Plus m_bag_Plus) :=
  eokTold mixed named x105 (loopsOK_list rids lk_bag_Plus_76_2) 60 S_bag_Plus m_bag_Plus (by
    intro us v h; unfold m_bag_Plus at h; split at h
    · rename_i v0; exact q_bag_Plus v0
    · cases h) false
noncomputable abbrev X106 : Ext := extT [(31, (gF S_bag_Plus m_bag_Plus))] X105
theorem x106 : XOK Tryz.prog X106 := xok1 x105 e_bag_Plus

def L_query_at : FuncId → Nat → Option (List Nat) := liveT []
def M_query_at : FuncId → Bool := fun _ => false
def S_query_at : FSp := ⟨[.one (.l 56), .one (.i .i64)], [], [], [([.agg [.i .i64, .i .i64, .s]], [])]⟩
noncomputable def m_query_at : List U → Rt
  | [.l v0, .i v1] =>
    (.test (decide (v1 < (0 : Int)))
    (.stop 0 [.i ((0 : Int)), .i ((0 : Int)), .s ({ data := #[] })])
    (.test (decide (v1 ≥ ln v0))
    (.stop 0 [.i ((0 : Int)), .i ((0 : Int)), .s ({ data := #[] })])
    (.test (inR v1 (ln v0))
    (.stop 0 [.i (cI (el v0 v1) 0), .i (cI (el v0 v1) 1), .s (cS (el v0 v1) 2)])
    .fail)))
  | _ => .fail
set_option maxRecDepth 100000 in
theorem q_query_at (v0 : List (List PV)) (v1 : Int) : callK br Tryz.prog X106 M_query_at L_query_at (lsT []) 60 33 (encs [.l v0, .i v1] 0 S_query_at.ap) (encH [.l v0, .i v1] (ws S_query_at.ap) S_query_at.ah) (fun y => fixR Tryz.prog S_query_at.plan S_query_at.ah.length y) =
    (m_query_at [.l v0, .i v1]).go br (fun _ => none) S_query_at.fin := by
  rw [← callF_eq]; kernel_rfl
theorem e_query_at : EOK Tryz.prog 33 (gF S_query_at m_query_at) :=
  eokTold mixed named x106 (loopsOK_list rids noneIn) 60 S_query_at m_query_at (by
    intro us v h; unfold m_query_at at h; split at h
    · rename_i v0 v1; exact q_query_at v0 v1
    · cases h) false
noncomputable abbrev X107 : Ext := extT [(33, (gF S_query_at m_query_at))] X106
theorem x107 : XOK Tryz.prog X107 := xok1 x106 e_query_at

def L_key_Encode : FuncId → Nat → Option (List Nat) := liveT [(34, 3, [11000003, 6, 7, 8]), (34, 1000003, [3]), (34, 2000003, [2]), (59, 8, [0, 5, 31]), (59, 1000008, [0]), (59, 2000008, [4]), (59, 14, [0, 3, 48, 49]), (59, 1000014, [0]), (59, 2000014, [4])]
def M_key_Encode : FuncId → Bool := fun f => f == 59
noncomputable def rd_key_Encode_59_8 : List U → Rt
  | [.i v0, .i v1, .l v2] =>
    (.test (decide (v1 < (8 : Int)))
    (.test (decide (w64 ((8 : Int) * w64 ((7 : Int) - v1)) < (0 : Int)))
    .fail
    (.test (decide ((List.length v2 + 1) * 1 ≤ 140737488355328))
    (.next [.i v0, .i (w64 (v1 + (1 : Int))), .l (v2 ++ [[PV.int IntKind.u8 (IntKind.wrap IntKind.u8 (Int.fdiv v0 ((2 : Int) ^ min (Int.toNat (w64 ((8 : Int) * w64 ((7 : Int) - v1)))) 64)))]])])
    .fail))
    (.stop 0 [.l v2]))
  | _ => .fail
def sp_key_Encode_59_8 : LSp := ⟨71, ⟨[(0, .one (.all 1)), (5, .one (.i .u64)), (31, .one (.i .i64))], [.dead, .arr 5 true]⟩, [(.exit 1, ⟨[(0, .one (.all 1))], [.dead, .arr 5 true]⟩)]⟩
set_option maxRecDepth 100000 in
theorem rq_key_Encode_59_8 (v0 : Int) (v1 : Int) (v2 : List (List PV)) : runK br Tryz.prog (callK br Tryz.prog X107 M_key_Encode L_key_Encode (lsT []) 40) M_key_Encode (lsT [] 59 1) 40 1 (L_key_Encode 59) (bodyOf Tryz.prog 59 8) (sp_key_Encode_59_8.s.ts sp_key_Encode_59_8.n [.i v0, .i v1, .l v2]) (sp_key_Encode_59_8.s.h [.i v0, .i v1, .l v2]) (idc Tryz.prog 1 (L_key_Encode 59) 8) =
    (rd_key_Encode_59_8 [.i v0, .i v1, .l v2]).go br (fun us' => some (.normal, sp_key_Encode_59_8.s.ts sp_key_Encode_59_8.n us', sp_key_Encode_59_8.s.h us')) sp_key_Encode_59_8.fin := by
  rw [← callF_eq, ← runF_eq]; kernel_rfl
theorem lo_key_Encode_59_8 {R : Type} : LoopTells Tryz.prog X107 M_key_Encode L_key_Encode 1 (L_key_Encode 59) (bodyOf Tryz.prog 59 8) (gL (R := R) sp_key_Encode_59_8 rd_key_Encode_59_8 br) :=
  loopTold (callK_ev (loopsOK_list rids noneIn) 40) (lsokIn (loopsOK_list rids noneIn) 59 1 8) (by kernel_rfl) sp_key_Encode_59_8 rd_key_Encode_59_8 rfl (by kernel_rfl) (by
    intro us v h; unfold rd_key_Encode_59_8 at h; split at h
    · rename_i v0 v1 v2; exact rq_key_Encode_59_8 v0 v1 v2
    · cases h)
noncomputable abbrev ll_key_Encode_59_8 {R : Type} : List (Nat × Nat × Nat × Smy R) := (59, 1, 8, gL sp_key_Encode_59_8 rd_key_Encode_59_8 br) :: []
theorem lk_key_Encode_59_8 {R : Type} : ∀ e ∈ ll_key_Encode_59_8 (R := R), LoopTells Tryz.prog X107 M_key_Encode L_key_Encode e.2.1 (L_key_Encode e.1) (bodyOf Tryz.prog e.1 e.2.2.1) e.2.2.2 := List.forall_mem_cons.2 ⟨lo_key_Encode_59_8, noneIn⟩
noncomputable def rd_key_Encode_59_14 : List U → Rt
  | [.i v0, .i v1, .l v2, .i v3, .i v4, .s v5] =>
    (.test (decide (v1 < v0))
    (.test (inR v1 (↑(ByteArray.size v5) : Int))
    (.test (decide ((List.length v2 + 1) * 1 ≤ 140737488355328))
    (.test (inR v1 (↑(ByteArray.size v5) : Int))
    (.test ((↑(UInt8.toNat (List.getD (Array.toList (ByteArray.data v5)) (Int.toNat v1) (0 : UInt8))) : Int) == (0 : Int))
    (.test (decide ((List.length (v2 ++ [[PV.int IntKind.u8 (↑(UInt8.toNat (List.getD (Array.toList (ByteArray.data v5)) (Int.toNat v1) (0 : UInt8))) : Int)]]) + 1) * 1 ≤ 140737488355328))
    (.next [.i v0, .i (w64 (v1 + (1 : Int))), .l (v2 ++ [[PV.int IntKind.u8 (↑(UInt8.toNat (List.getD (Array.toList (ByteArray.data v5)) (Int.toNat v1) (0 : UInt8))) : Int)]] ++ [[PV.int IntKind.u8 (255 : Int)]]), .i v3, .i v4, .s v5])
    .fail)
    (.next [.i v0, .i (w64 (v1 + (1 : Int))), .l (v2 ++ [[PV.int IntKind.u8 (↑(UInt8.toNat (List.getD (Array.toList (ByteArray.data v5)) (Int.toNat v1) (0 : UInt8))) : Int)]]), .i v3, .i v4, .s v5]))
    .fail)
    .fail)
    .fail)
    (.stop 0 [.l v2]))
  | _ => .fail
def sp_key_Encode_59_14 : LSp := ⟨71, ⟨[(0, .one (.all 1)), (3, .one (.ptr 2 0)), (48, .one (.i .i64)), (49, .one (.i .i64))], [.dead, .arr 5 true, .box 56 [.one (.i .i64), .one (.i .i64), .one (.s)]]⟩, [(.exit 3, ⟨[(0, .one (.all 1))], [.dead, .arr 5 true]⟩)]⟩
set_option maxRecDepth 100000 in
theorem rq_key_Encode_59_14 (v0 : Int) (v1 : Int) (v2 : List (List PV)) (v3 : Int) (v4 : Int) (v5 : ByteArray) : runK br Tryz.prog (callK br Tryz.prog X107 M_key_Encode L_key_Encode (lsT ll_key_Encode_59_8) 40) M_key_Encode (lsT ll_key_Encode_59_8 59 1) 40 1 (L_key_Encode 59) (bodyOf Tryz.prog 59 14) (sp_key_Encode_59_14.s.ts sp_key_Encode_59_14.n [.i v0, .i v1, .l v2, .i v3, .i v4, .s v5]) (sp_key_Encode_59_14.s.h [.i v0, .i v1, .l v2, .i v3, .i v4, .s v5]) (idc Tryz.prog 1 (L_key_Encode 59) 14) =
    (rd_key_Encode_59_14 [.i v0, .i v1, .l v2, .i v3, .i v4, .s v5]).go br (fun us' => some (.normal, sp_key_Encode_59_14.s.ts sp_key_Encode_59_14.n us', sp_key_Encode_59_14.s.h us')) sp_key_Encode_59_14.fin := by
  rw [← callF_eq, ← runF_eq]; kernel_rfl
theorem lo_key_Encode_59_14 {R : Type} : LoopTells Tryz.prog X107 M_key_Encode L_key_Encode 1 (L_key_Encode 59) (bodyOf Tryz.prog 59 14) (gL (R := R) sp_key_Encode_59_14 rd_key_Encode_59_14 br) :=
  loopTold (callK_ev (loopsOK_list rids lk_key_Encode_59_8) 40) (lsokIn (loopsOK_list rids lk_key_Encode_59_8) 59 1 14) (by kernel_rfl) sp_key_Encode_59_14 rd_key_Encode_59_14 rfl (by kernel_rfl) (by
    intro us v h; unfold rd_key_Encode_59_14 at h; split at h
    · rename_i v0 v1 v2 v3 v4 v5; exact rq_key_Encode_59_14 v0 v1 v2 v3 v4 v5
    · cases h)
noncomputable abbrev ll_key_Encode_59_14 {R : Type} : List (Nat × Nat × Nat × Smy R) := (59, 1, 14, gL sp_key_Encode_59_14 rd_key_Encode_59_14 br) :: ll_key_Encode_59_8
theorem lk_key_Encode_59_14 {R : Type} : ∀ e ∈ ll_key_Encode_59_14 (R := R), LoopTells Tryz.prog X107 M_key_Encode L_key_Encode e.2.1 (L_key_Encode e.1) (bodyOf Tryz.prog e.1 e.2.2.1) e.2.2.2 := List.forall_mem_cons.2 ⟨lo_key_Encode_59_14, lk_key_Encode_59_8⟩
noncomputable def rd_key_Encode_34_3 : List U → Rt
  | [.l v0, .i v1, .i v2, .l v3] =>
    (.test (decide (v2 < v1))
    (.test (inR v2 (ln v0))
    (let r0 : Rs := (Rt.res (m_value_May [U.i (cI (el v0 v2) 0), U.i (cI (el v0 v2) 1), U.s (cS (el v0 v2) 2)]))
    (.test (ok r0 0)
    (.test (!uB (out r0 0) 0)
    (.stop 0 [.s ({ data := #[] })])
    (.test (decide ((List.length v3 + 1) * 1 ≤ 140737488355328))
    (.test (cI (el v0 v2) 0 == (1 : Int))
    (.test (decide ((List.length (v3 ++ [[PV.int IntKind.u8 (IntKind.wrap IntKind.u8 (w64 (cI (el v0 v2) 0 + (1 : Int))))]]) + 1) * 1 ≤ 140737488355328))
    (.next [.l v0, .i v1, .i (w64 (v2 + (1 : Int))), .l (v3 ++ [[PV.int IntKind.u8 (IntKind.wrap IntKind.u8 (w64 (cI (el v0 v2) 0 + (1 : Int))))]] ++ [[PV.int IntKind.u8 (IntKind.wrap IntKind.u8 (cI (el v0 v2) 1))]])])
    .fail)
    (.test (cI (el v0 v2) 0 == (2 : Int))
    (let r1 : Rs := (lres rd_key_Encode_59_8 [U.i (IntKind.wrap IntKind.u64 (IntKind.wrap IntKind.u64 (cI (el v0 v2) 1) + (9223372036854775808 : Int))), U.i (0 : Int), U.l (v3 ++ [[PV.int IntKind.u8 (IntKind.wrap IntKind.u8 (w64 (cI (el v0 v2) 0 + (1 : Int))))]])])
    (.test (ok r1 0)
    (.next [.l v0, .i v1, .i (w64 (v2 + (1 : Int))), .l (uL (out r1 0) 0)])
    .fail))
    (.test (cI (el v0 v2) 0 == (3 : Int))
    (let r2 : Rs := (lres rd_key_Encode_59_14 [U.i (↑(ByteArray.size (cS (el v0 v2) 2)) : Int), U.i (0 : Int), U.l (v3 ++ [[PV.int IntKind.u8 (IntKind.wrap IntKind.u8 (w64 (cI (el v0 v2) 0 + (1 : Int))))]]), U.i (cI (el v0 v2) 0), U.i (cI (el v0 v2) 1), U.s (cS (el v0 v2) 2)])
    (.test (ok r2 0)
    (.test (decide ((List.length (uL (out r2 0) 0) + 2) * 1 ≤ 140737488355328))
    (.next [.l v0, .i v1, .i (w64 (v2 + (1 : Int))), .l (uL (out r2 0) 0 ++ [[PV.int IntKind.u8 (0 : Int)], [PV.int IntKind.u8 (1 : Int)]])])
    .fail)
    .fail))
    (.next [.l v0, .i v1, .i (w64 (v2 + (1 : Int))), .l (v3 ++ [[PV.int IntKind.u8 (IntKind.wrap IntKind.u8 (w64 (cI (el v0 v2) 0 + (1 : Int))))]])]))))
    .fail))
    .fail))
    .fail)
    (.stop 1 [.l v3]))
  | _ => .fail
def sp_key_Encode_34_3 : LSp := ⟨21, ⟨[(3, .one (.all 0)), (6, .one (.l 56)), (7, .one (.i .i64)), (8, .one (.i .i64))], [.arr 5 true]⟩, [(.ret, ⟨[(2, .one (.s))], []⟩), (.exit 0, ⟨[(3, .one (.all 0))], [.arr 5 true]⟩)]⟩
set_option maxRecDepth 100000 in
theorem rq_key_Encode_34_3 (v0 : List (List PV)) (v1 : Int) (v2 : Int) (v3 : List (List PV)) : runK br Tryz.prog (callK br Tryz.prog X107 M_key_Encode L_key_Encode (lsT ll_key_Encode_59_14) 40) M_key_Encode (lsT ll_key_Encode_59_14 34 0) 40 0 (L_key_Encode 34) (bodyOf Tryz.prog 34 3) (sp_key_Encode_34_3.s.ts sp_key_Encode_34_3.n [.l v0, .i v1, .i v2, .l v3]) (sp_key_Encode_34_3.s.h [.l v0, .i v1, .i v2, .l v3]) (idc Tryz.prog 0 (L_key_Encode 34) 3) =
    (rd_key_Encode_34_3 [.l v0, .i v1, .i v2, .l v3]).go br (fun us' => some (.normal, sp_key_Encode_34_3.s.ts sp_key_Encode_34_3.n us', sp_key_Encode_34_3.s.h us')) sp_key_Encode_34_3.fin := by
  rw [← callF_eq, ← runF_eq]; kernel_rfl
theorem lo_key_Encode_34_3 {R : Type} : LoopTells Tryz.prog X107 M_key_Encode L_key_Encode 0 (L_key_Encode 34) (bodyOf Tryz.prog 34 3) (gL (R := R) sp_key_Encode_34_3 rd_key_Encode_34_3 br) :=
  loopTold (callK_ev (loopsOK_list rids lk_key_Encode_59_14) 40) (lsokIn (loopsOK_list rids lk_key_Encode_59_14) 34 0 3) (by kernel_rfl) sp_key_Encode_34_3 rd_key_Encode_34_3 rfl (by kernel_rfl) (by
    intro us v h; unfold rd_key_Encode_34_3 at h; split at h
    · rename_i v0 v1 v2 v3; exact rq_key_Encode_34_3 v0 v1 v2 v3
    · cases h)
noncomputable abbrev ll_key_Encode_34_3 {R : Type} : List (Nat × Nat × Nat × Smy R) := (34, 0, 3, gL sp_key_Encode_34_3 rd_key_Encode_34_3 br) :: ll_key_Encode_59_14
theorem lk_key_Encode_34_3 {R : Type} : ∀ e ∈ ll_key_Encode_34_3 (R := R), LoopTells Tryz.prog X107 M_key_Encode L_key_Encode e.2.1 (L_key_Encode e.1) (bodyOf Tryz.prog e.1 e.2.2.1) e.2.2.2 := List.forall_mem_cons.2 ⟨lo_key_Encode_34_3, lk_key_Encode_59_14⟩
def S_key_Encode : FSp := ⟨[.one (.l 56)], [], [], [([.one (.s)], [])]⟩
noncomputable def m_key_Encode : List U → Rt
  | [.l v0] =>
    (let r0 : Rs := (lres rd_key_Encode_34_3 [U.l v0, U.i (ln v0), U.i (0 : Int), U.l []])
    (.test (ok r0 0)
    (.stop 0 [.s (uS (out r0 0) 0)])
    (.test (ok r0 1)
    (.stop 0 [.s (strOf (uL (out r0 1) 0))])
    .fail)))
  | _ => .fail
set_option maxRecDepth 100000 in
theorem q_key_Encode (v0 : List (List PV)) : callK br Tryz.prog X107 M_key_Encode L_key_Encode (lsT ll_key_Encode_34_3) 60 34 (encs [.l v0] 0 S_key_Encode.ap) (encH [.l v0] (ws S_key_Encode.ap) S_key_Encode.ah) (fun y => fixR Tryz.prog S_key_Encode.plan S_key_Encode.ah.length y) =
    (m_key_Encode [.l v0]).go br (fun _ => none) S_key_Encode.fin := by
  rw [← callF_eq]; kernel_rfl
theorem e_key_Encode : EOK Tryz.prog 34 (gF S_key_Encode m_key_Encode) :=
  eokTold mixed named x107 (loopsOK_list rids lk_key_Encode_34_3) 60 S_key_Encode m_key_Encode (by
    intro us v h; unfold m_key_Encode at h; split at h
    · rename_i v0; exact q_key_Encode v0
    · cases h) false
noncomputable abbrev X108 : Ext := extT [(34, (gF S_key_Encode m_key_Encode))] X107
theorem x108 : XOK Tryz.prog X108 := xok1 x107 e_key_Encode

def L_query_index : FuncId → Nat → Option (List Nat) := liveT [(32, 3, [1, 5, 11, 12, 13]), (32, 1000003, [5]), (32, 2000003, [4])]
def M_query_index : FuncId → Bool := fun _ => false
noncomputable def rd_query_index_32_3 : List U → Rt
  | [.i v0, .l v1, .i v2, .i v3, .l v4] =>
    (.test (decide (v3 < v2))
    (.test (inR v3 (ln v1))
    (let r0 : Rs := (Rt.res (m_query_at [U.l (cL (el v1 v3) 0), U.i v0]))
    (.test (ok r0 0)
    (.test (uI (out r0 0) 0 != (0 : Int))
    (let r1 : Rs := (Rt.res (m_key_Encode [U.l [[pI (uI (out r0 0) 0), pI (uI (out r0 0) 1), pS (uS (out r0 0) 2)]]]))
    (.test (ok r1 0)
    (.test (decide ((List.length (lkM v4 (uS (out r1 0) 0)) + 1) * 32 ≤ 140737488355328))
    (.test (decide (uS (out r1 0) 0 = uS (out r1 0) 0))
    (.next [.i v0, .l v1, .i v2, .i (w64 (v3 + (1 : Int))), .l (putM v4 (uS (out r1 0) 0) (PV.lst 54 (lkM v4 (uS (out r1 0) 0) ++ [[PV.lst 56 (cL (el v1 v3) 0), pI (cI (el v1 v3) 1)]])))])
    .fail)
    .fail)
    .fail))
    (.next [.i v0, .l v1, .i v2, .i (w64 (v3 + (1 : Int))), .l v4]))
    .fail))
    .fail)
    (.stop 0 [.l v4]))
  | _ => .fail
def sp_query_index_32_3 : LSp := ⟨37, ⟨[(1, .one (.i .i64)), (5, .one (.mp 0)), (11, .one (.l 54)), (12, .one (.i .i64)), (13, .one (.i .i64))], [.map 29 false]⟩, [(.exit 0, ⟨[(5, .one (.mp 0))], [.map 29 false]⟩)]⟩
set_option maxRecDepth 100000 in
theorem rq_query_index_32_3 (v0 : Int) (v1 : List (List PV)) (v2 : Int) (v3 : Int) (v4 : List (List PV)) : runK br Tryz.prog (callK br Tryz.prog X108 M_query_index L_query_index (lsT []) 40) M_query_index (lsT [] 32 0) 40 0 (L_query_index 32) (bodyOf Tryz.prog 32 3) (sp_query_index_32_3.s.ts sp_query_index_32_3.n [.i v0, .l v1, .i v2, .i v3, .l v4]) (sp_query_index_32_3.s.h [.i v0, .l v1, .i v2, .i v3, .l v4]) (idc Tryz.prog 0 (L_query_index 32) 3) =
    (rd_query_index_32_3 [.i v0, .l v1, .i v2, .i v3, .l v4]).go br (fun us' => some (.normal, sp_query_index_32_3.s.ts sp_query_index_32_3.n us', sp_query_index_32_3.s.h us')) sp_query_index_32_3.fin := by
  rw [← callF_eq, ← runF_eq]; kernel_rfl
theorem lo_query_index_32_3 {R : Type} : LoopTells Tryz.prog X108 M_query_index L_query_index 0 (L_query_index 32) (bodyOf Tryz.prog 32 3) (gL (R := R) sp_query_index_32_3 rd_query_index_32_3 br) :=
  loopTold (callK_ev (loopsOK_list rids noneIn) 40) (lsokIn (loopsOK_list rids noneIn) 32 0 3) (by kernel_rfl) sp_query_index_32_3 rd_query_index_32_3 rfl (by kernel_rfl) (by
    intro us v h; unfold rd_query_index_32_3 at h; split at h
    · rename_i v0 v1 v2 v3 v4; exact rq_query_index_32_3 v0 v1 v2 v3 v4
    · cases h)
noncomputable abbrev ll_query_index_32_3 {R : Type} : List (Nat × Nat × Nat × Smy R) := (32, 0, 3, gL sp_query_index_32_3 rd_query_index_32_3 br) :: []
theorem lk_query_index_32_3 {R : Type} : ∀ e ∈ ll_query_index_32_3 (R := R), LoopTells Tryz.prog X108 M_query_index L_query_index e.2.1 (L_query_index e.1) (bodyOf Tryz.prog e.1 e.2.2.1) e.2.2.2 := List.forall_mem_cons.2 ⟨lo_query_index_32_3, noneIn⟩
def S_query_index : FSp := ⟨[.one (.l 54), .one (.i .i64)], [], [], [([.one (.mp 0)], [.map 29 false])]⟩
noncomputable def m_query_index : List U → Rt
  | [.l v0, .i v1] =>
    (let r0 : Rs := (lres rd_query_index_32_3 [U.i v1, U.l v0, U.i (ln v0), U.i (0 : Int), U.l []])
    (.test (ok r0 0)
    (.stop 0 [.l (uL (out r0 0) 0)])
    .fail))
  | _ => .fail
set_option maxRecDepth 100000 in
theorem q_query_index (v0 : List (List PV)) (v1 : Int) : callK br Tryz.prog X108 M_query_index L_query_index (lsT ll_query_index_32_3) 60 32 (encs [.l v0, .i v1] 0 S_query_index.ap) (encH [.l v0, .i v1] (ws S_query_index.ap) S_query_index.ah) (fun y => fixR Tryz.prog S_query_index.plan S_query_index.ah.length y) =
    (m_query_index [.l v0, .i v1]).go br (fun _ => none) S_query_index.fin := by
  rw [← callF_eq]; kernel_rfl
theorem e_query_index : EOK Tryz.prog 32 (gF S_query_index m_query_index) :=
  eokTold mixed named x108 (loopsOK_list rids lk_query_index_32_3) 60 S_query_index m_query_index (by
    intro us v h; unfold m_query_index at h; split at h
    · rename_i v0 v1; exact q_query_index v0 v1
    · cases h) false
noncomputable abbrev X109 : Ext := extT [(32, (gF S_query_index m_query_index))] X108
theorem x109 : XOK Tryz.prog X109 := xok1 x108 e_query_index

def L_slices_Concat_Row : FuncId → Nat → Option (List Nat) := liveT [(60, 3, [0, 3, 9, 10, 11]), (60, 1000003, [0, 3]), (60, 2000003, [2]), (60, 11, [6, 25, 26, 27]), (60, 1000011, [6]), (60, 2000011, [2])]
def M_slices_Concat_Row : FuncId → Bool := fun _ => false
noncomputable def rd_slices_Concat_Row_60_3 : List U → Rt
  | [.l v0, .i v1, .l v2, .i v3, .i v4] =>
    (.test (decide (v4 < v3))
    (.test (inR v4 (ln v2))
    (.test (decide (w64 (v1 + ln (cL (el v2 v4) 0)) < (0 : Int)))
    .fail
    (.next [.l v0, .i (w64 (v1 + ln (cL (el v2 v4) 0))), .l v2, .i v3, .i (w64 (v4 + (1 : Int)))]))
    .fail)
    (.stop 0 [.l v0, .i v1]))
  | _ => .fail
def sp_slices_Concat_Row_60_3 : LSp := ⟨36, ⟨[(0, .one (.l 52)), (3, .one (.i .i64)), (9, .one (.l 52)), (10, .one (.i .i64)), (11, .one (.i .i64))], []⟩, [(.exit 0, ⟨[(0, .one (.l 52)), (3, .one (.i .i64))], []⟩)]⟩
set_option maxRecDepth 100000 in
theorem rq_slices_Concat_Row_60_3 (v0 : List (List PV)) (v1 : Int) (v2 : List (List PV)) (v3 : Int) (v4 : Int) : runK br Tryz.prog (callK br Tryz.prog X109 M_slices_Concat_Row L_slices_Concat_Row (lsT []) 40) M_slices_Concat_Row (lsT [] 60 0) 40 0 (L_slices_Concat_Row 60) (bodyOf Tryz.prog 60 3) (sp_slices_Concat_Row_60_3.s.ts sp_slices_Concat_Row_60_3.n [.l v0, .i v1, .l v2, .i v3, .i v4]) (sp_slices_Concat_Row_60_3.s.h [.l v0, .i v1, .l v2, .i v3, .i v4]) (idc Tryz.prog 0 (L_slices_Concat_Row 60) 3) =
    (rd_slices_Concat_Row_60_3 [.l v0, .i v1, .l v2, .i v3, .i v4]).go br (fun us' => some (.normal, sp_slices_Concat_Row_60_3.s.ts sp_slices_Concat_Row_60_3.n us', sp_slices_Concat_Row_60_3.s.h us')) sp_slices_Concat_Row_60_3.fin := by
  rw [← callF_eq, ← runF_eq]; kernel_rfl
theorem lo_slices_Concat_Row_60_3 {R : Type} : LoopTells Tryz.prog X109 M_slices_Concat_Row L_slices_Concat_Row 0 (L_slices_Concat_Row 60) (bodyOf Tryz.prog 60 3) (gL (R := R) sp_slices_Concat_Row_60_3 rd_slices_Concat_Row_60_3 br) :=
  loopTold (callK_ev (loopsOK_list rids noneIn) 40) (lsokIn (loopsOK_list rids noneIn) 60 0 3) (by kernel_rfl) sp_slices_Concat_Row_60_3 rd_slices_Concat_Row_60_3 rfl (by kernel_rfl) (by
    intro us v h; unfold rd_slices_Concat_Row_60_3 at h; split at h
    · rename_i v0 v1 v2 v3 v4; exact rq_slices_Concat_Row_60_3 v0 v1 v2 v3 v4
    · cases h)
noncomputable abbrev ll_slices_Concat_Row_60_3 {R : Type} : List (Nat × Nat × Nat × Smy R) := (60, 0, 3, gL sp_slices_Concat_Row_60_3 rd_slices_Concat_Row_60_3 br) :: []
theorem lk_slices_Concat_Row_60_3 {R : Type} : ∀ e ∈ ll_slices_Concat_Row_60_3 (R := R), LoopTells Tryz.prog X109 M_slices_Concat_Row L_slices_Concat_Row e.2.1 (L_slices_Concat_Row e.1) (bodyOf Tryz.prog e.1 e.2.2.1) e.2.2.2 := List.forall_mem_cons.2 ⟨lo_slices_Concat_Row_60_3, noneIn⟩
noncomputable def rd_slices_Concat_Row_60_11 : List U → Rt
  | [.l v0, .i v1, .i v2, .l v3] =>
    (.test (decide (v2 < v1))
    (.test (inR v2 (ln v0))
    (.test (decide ((List.length v3 + List.length (cL (el v0 v2) 0)) * 32 ≤ 140737488355328))
    (.next [.l v0, .i v1, .i (w64 (v2 + (1 : Int))), .l (v3 ++ cL (el v0 v2) 0)])
    .fail)
    .fail)
    (.stop 0 [.l v3]))
  | _ => .fail
def sp_slices_Concat_Row_60_11 : LSp := ⟨36, ⟨[(6, .one (.all 0)), (25, .one (.l 52)), (26, .one (.i .i64)), (27, .one (.i .i64))], [.arr 56 true]⟩, [(.exit 2, ⟨[(6, .one (.all 0))], [.arr 56 true]⟩)]⟩
set_option maxRecDepth 100000 in
theorem rq_slices_Concat_Row_60_11 (v0 : List (List PV)) (v1 : Int) (v2 : Int) (v3 : List (List PV)) : runK br Tryz.prog (callK br Tryz.prog X109 M_slices_Concat_Row L_slices_Concat_Row (lsT ll_slices_Concat_Row_60_3) 40) M_slices_Concat_Row (lsT ll_slices_Concat_Row_60_3 60 0) 40 0 (L_slices_Concat_Row 60) (bodyOf Tryz.prog 60 11) (sp_slices_Concat_Row_60_11.s.ts sp_slices_Concat_Row_60_11.n [.l v0, .i v1, .i v2, .l v3]) (sp_slices_Concat_Row_60_11.s.h [.l v0, .i v1, .i v2, .l v3]) (idc Tryz.prog 0 (L_slices_Concat_Row 60) 11) =
    (rd_slices_Concat_Row_60_11 [.l v0, .i v1, .i v2, .l v3]).go br (fun us' => some (.normal, sp_slices_Concat_Row_60_11.s.ts sp_slices_Concat_Row_60_11.n us', sp_slices_Concat_Row_60_11.s.h us')) sp_slices_Concat_Row_60_11.fin := by
  rw [← callF_eq, ← runF_eq]; kernel_rfl
theorem lo_slices_Concat_Row_60_11 {R : Type} : LoopTells Tryz.prog X109 M_slices_Concat_Row L_slices_Concat_Row 0 (L_slices_Concat_Row 60) (bodyOf Tryz.prog 60 11) (gL (R := R) sp_slices_Concat_Row_60_11 rd_slices_Concat_Row_60_11 br) :=
  loopTold (callK_ev (loopsOK_list rids lk_slices_Concat_Row_60_3) 40) (lsokIn (loopsOK_list rids lk_slices_Concat_Row_60_3) 60 0 11) (by kernel_rfl) sp_slices_Concat_Row_60_11 rd_slices_Concat_Row_60_11 rfl (by kernel_rfl) (by
    intro us v h; unfold rd_slices_Concat_Row_60_11 at h; split at h
    · rename_i v0 v1 v2 v3; exact rq_slices_Concat_Row_60_11 v0 v1 v2 v3
    · cases h)
noncomputable abbrev ll_slices_Concat_Row_60_11 {R : Type} : List (Nat × Nat × Nat × Smy R) := (60, 0, 11, gL sp_slices_Concat_Row_60_11 rd_slices_Concat_Row_60_11 br) :: ll_slices_Concat_Row_60_3
theorem lk_slices_Concat_Row_60_11 {R : Type} : ∀ e ∈ ll_slices_Concat_Row_60_11 (R := R), LoopTells Tryz.prog X109 M_slices_Concat_Row L_slices_Concat_Row e.2.1 (L_slices_Concat_Row e.1) (bodyOf Tryz.prog e.1 e.2.2.1) e.2.2.2 := List.forall_mem_cons.2 ⟨lo_slices_Concat_Row_60_11, lk_slices_Concat_Row_60_3⟩
def S_slices_Concat_Row : FSp := ⟨[.one (.l 52)], [], [], [([.one (.all 0)], [.arr 56 true])]⟩
noncomputable def m_slices_Concat_Row : List U → Rt
  | [.l v0] =>
    (let r0 : Rs := (lres rd_slices_Concat_Row_60_3 [U.l v0, U.i (0 : Int), U.l v0, U.i (ln v0), U.i (0 : Int)])
    (.test (ok r0 0)
    (.test (decide ((0 : Int) ≤ uI (out r0 0) 1 ∧ uI (out r0 0) 1 * (32 : Int) ≤ (140737488355328 : Int)))
    (let r1 : Rs := (lres rd_slices_Concat_Row_60_11 [U.l (uL (out r0 0) 0), U.i (ln (uL (out r0 0) 0)), U.i (0 : Int), U.l []])
    (.test (ok r1 0)
    (.stop 0 [.l (uL (out r1 0) 0)])
    .fail))
    .fail)
    .fail))
  | _ => .fail
set_option maxRecDepth 100000 in
theorem q_slices_Concat_Row (v0 : List (List PV)) : callK br Tryz.prog X109 M_slices_Concat_Row L_slices_Concat_Row (lsT ll_slices_Concat_Row_60_11) 60 60 (encs [.l v0] 0 S_slices_Concat_Row.ap) (encH [.l v0] (ws S_slices_Concat_Row.ap) S_slices_Concat_Row.ah) (fun y => fixR Tryz.prog S_slices_Concat_Row.plan S_slices_Concat_Row.ah.length y) =
    (m_slices_Concat_Row [.l v0]).go br (fun _ => none) S_slices_Concat_Row.fin := by
  rw [← callF_eq]; kernel_rfl
theorem e_slices_Concat_Row : EOK Tryz.prog 60 (gF S_slices_Concat_Row m_slices_Concat_Row) :=
  eokTold mixed named x109 (loopsOK_list rids lk_slices_Concat_Row_60_11) 60 S_slices_Concat_Row m_slices_Concat_Row (by
    intro us v h; unfold m_slices_Concat_Row at h; split at h
    · rename_i v0; exact q_slices_Concat_Row v0
    · cases h) false
noncomputable abbrev X110 : Ext := extT [(60, (gF S_slices_Concat_Row m_slices_Concat_Row))] X109
theorem x110 : XOK Tryz.prog X110 := xok1 x109 e_slices_Concat_Row

def L_row_Join : FuncId → Nat → Option (List Nat) := liveT []
def M_row_Join : FuncId → Bool := fun _ => false
def S_row_Join : FSp := ⟨[.one (.l 52)], [], [], [([.one (.all 0)], [.arr 56 true])]⟩
noncomputable def m_row_Join : List U → Rt
  | [.l v0] =>
    (let r0 : Rs := (Rt.res (m_slices_Concat_Row [U.l v0]))
    (.test (ok r0 0)
    (.stop 0 [.l (uL (out r0 0) 0)])
    .fail))
  | _ => .fail
set_option maxRecDepth 100000 in
theorem q_row_Join (v0 : List (List PV)) : callK br Tryz.prog X110 M_row_Join L_row_Join (lsT []) 60 35 (encs [.l v0] 0 S_row_Join.ap) (encH [.l v0] (ws S_row_Join.ap) S_row_Join.ah) (fun y => fixR Tryz.prog S_row_Join.plan S_row_Join.ah.length y) =
    (m_row_Join [.l v0]).go br (fun _ => none) S_row_Join.fin := by
  rw [← callF_eq]; kernel_rfl
theorem e_row_Join : EOK Tryz.prog 35 (gF S_row_Join m_row_Join) :=
  eokTold mixed named x110 (loopsOK_list rids noneIn) 60 S_row_Join m_row_Join (by
    intro us v h; unfold m_row_Join at h; split at h
    · rename_i v0; exact q_row_Join v0
    · cases h) false
noncomputable abbrev X111 : Ext := extT [(35, (gF S_row_Join m_row_Join))] X110
theorem x111 : XOK Tryz.prog X111 := xok1 x110 e_row_Join

def L_query_Product : FuncId → Nat → Option (List Nat) := liveT [(9, 13, [3, 8, 109000009, 11, 36, 37, 38, 55, 56, 57]), (9, 1000013, [3, 8, 9, 36, 37, 38]), (9, 2000013, [6, 7]), (9, 8, [3, 499999000008, 109000009, 36, 37, 38]), (9, 1000008, [9]), (9, 2000008, [6, 7])]
def M_query_Product : FuncId → Bool := fun _ => false
noncomputable def rd_query_Product_9_13 : List U → Rt
  | [.l v0, .i v1, .i v2, .l v3, .i v4, .i v5, .s v6, .s v7, .s v8, .i v9, .i v10, .l v11, .l v12, .b v13, .l v14, .l v15, .l v16, .l v17, .i v18] =>
    (.test (decide (v5 < v4))
    (.test (inR v5 (ln v3))
    (let r0 : Rs := (Rt.res (m_row_Join [U.l [[PV.lst 56 v17], [PV.lst 56 (cL (el v3 v5) 0)]]]))
    (.test (ok r0 0)
    (.test (decide (ln (uL (out r0 0) 0) > (40 : Int)))
    (.stop 0 [.i ((100 : Int))])
    (.test (decide (w64 (v18 * cI (el v3 v5) 1) > (1000000000 : Int)))
    (.stop 0 [.i ((100 : Int))])
    (.test (decide (w64 (v18 * cI (el v3 v5) 1) < (-1000000000 : Int)))
    (.stop 0 [.i ((100 : Int))])
    (.test (decide (ln v16 ≥ (10000 : Int)))
    (.stop 0 [.i ((100 : Int))])
    (.test (decide ((List.length v16 + 1) * 32 ≤ 140737488355328))
    (.next [.l v0, .i v1, .i v2, .l v3, .i v4, .i (w64 (v5 + (1 : Int))), .s v6, .s v7, .s v8, .i v9, .i v10, .l v11, .l v12, .b v13, .l v14, .l v15, .l (v16 ++ [[PV.lst 56 (uL (out r0 0) 0), pI (w64 (v18 * cI (el v3 v5) 1))]]), .l v17, .i v18])
    .fail)))))
    .fail))
    .fail)
    (.stop 1 [.l v0, .i v1, .i v2, .s v6, .s v7, .s v8, .i v9, .i v10, .l v11, .l v12, .b v13, .l v14, .l v15, .l v16]))
  | _ => .fail
def sp_query_Product_9_13 : LSp := ⟨104, ⟨[(3, .one (.ptr 0 0)), (8, .one (.mp 1)), (9, .one (.all 2)), (11, .one (.ptr 3 0)), (36, .one (.l 54)), (37, .one (.i .i64)), (38, .one (.i .i64)), (55, .one (.l 54)), (56, .one (.i .i64)), (57, .one (.i .i64))], [.box 28 [.one (.s), .one (.s), .one (.s), .one (.i .i64), .one (.i .i64), .one (.l 58), .one (.l 3), .one (.b), .one (.l 165)], .map 29 true, .arr 54 true, .box 54 [.one (.l 56), .one (.i .i64)]]⟩, [(.ret, ⟨[(6, .one (.nils)), (7, .one (.i .i64))], []⟩), (.exit 2, ⟨[(3, .one (.ptr 0 0)), (8, .one (.mp 1)), (9, .one (.all 2)), (36, .one (.l 54)), (37, .one (.i .i64)), (38, .one (.i .i64))], [.box 28 [.one (.s), .one (.s), .one (.s), .one (.i .i64), .one (.i .i64), .one (.l 58), .one (.l 3), .one (.b), .one (.l 165)], .map 29 true, .arr 54 true]⟩)]⟩
set_option maxRecDepth 100000 in
theorem rq_query_Product_9_13 (v0 : List (List PV)) (v1 : Int) (v2 : Int) (v3 : List (List PV)) (v4 : Int) (v5 : Int) (v6 : ByteArray) (v7 : ByteArray) (v8 : ByteArray) (v9 : Int) (v10 : Int) (v11 : List (List PV)) (v12 : List (List PV)) (v13 : Bool) (v14 : List (List PV)) (v15 : List (List PV)) (v16 : List (List PV)) (v17 : List (List PV)) (v18 : Int) : runK br Tryz.prog (callK br Tryz.prog X111 M_query_Product L_query_Product (lsT []) 40) M_query_Product (lsT [] 9 0) 40 0 (L_query_Product 9) (bodyOf Tryz.prog 9 13) (sp_query_Product_9_13.s.ts sp_query_Product_9_13.n [.l v0, .i v1, .i v2, .l v3, .i v4, .i v5, .s v6, .s v7, .s v8, .i v9, .i v10, .l v11, .l v12, .b v13, .l v14, .l v15, .l v16, .l v17, .i v18]) (sp_query_Product_9_13.s.h [.l v0, .i v1, .i v2, .l v3, .i v4, .i v5, .s v6, .s v7, .s v8, .i v9, .i v10, .l v11, .l v12, .b v13, .l v14, .l v15, .l v16, .l v17, .i v18]) (idc Tryz.prog 0 (L_query_Product 9) 13) =
    (rd_query_Product_9_13 [.l v0, .i v1, .i v2, .l v3, .i v4, .i v5, .s v6, .s v7, .s v8, .i v9, .i v10, .l v11, .l v12, .b v13, .l v14, .l v15, .l v16, .l v17, .i v18]).go br (fun us' => some (.normal, sp_query_Product_9_13.s.ts sp_query_Product_9_13.n us', sp_query_Product_9_13.s.h us')) sp_query_Product_9_13.fin := by
  rw [← callF_eq, ← runF_eq]; kernel_rfl
theorem lo_query_Product_9_13 {R : Type} : LoopTells Tryz.prog X111 M_query_Product L_query_Product 0 (L_query_Product 9) (bodyOf Tryz.prog 9 13) (gL (R := R) sp_query_Product_9_13 rd_query_Product_9_13 br) :=
  loopTold (callK_ev (loopsOK_list rids noneIn) 40) (lsokIn (loopsOK_list rids noneIn) 9 0 13) (by kernel_rfl) sp_query_Product_9_13 rd_query_Product_9_13 rfl (by kernel_rfl) (by
    intro us v h; unfold rd_query_Product_9_13 at h; split at h
    · rename_i v0 v1 v2 v3 v4 v5 v6 v7 v8 v9 v10 v11 v12 v13 v14 v15 v16 v17 v18; exact rq_query_Product_9_13 v0 v1 v2 v3 v4 v5 v6 v7 v8 v9 v10 v11 v12 v13 v14 v15 v16 v17 v18
    · cases h)
noncomputable abbrev ll_query_Product_9_13 {R : Type} : List (Nat × Nat × Nat × Smy R) := (9, 0, 13, gL sp_query_Product_9_13 rd_query_Product_9_13 br) :: []
theorem lk_query_Product_9_13 {R : Type} : ∀ e ∈ ll_query_Product_9_13 (R := R), LoopTells Tryz.prog X111 M_query_Product L_query_Product e.2.1 (L_query_Product e.1) (bodyOf Tryz.prog e.1 e.2.2.1) e.2.2.2 := List.forall_mem_cons.2 ⟨lo_query_Product_9_13, noneIn⟩
noncomputable def rd_query_Product_9_8 : List U → Rt
  | [.l v0, .i v1, .i v2, .s v3, .s v4, .s v5, .i v6, .i v7, .l v8, .l v9, .b v10, .l v11, .l v12, .l v13] =>
    (.test (decide (v2 < v1))
    (.test (inR v2 (ln v0))
    (let r0 : Rs := (Rt.res (m_query_at [U.l (cL (el v0 v2) 0), U.i v6]))
    (.test (ok r0 0)
    (.test (uI (out r0 0) 0 == (0 : Int))
    (.next [.l v0, .i v1, .i (w64 (v2 + (1 : Int))), .s v3, .s v4, .s v5, .i v6, .i v7, .l v8, .l v9, .b v10, .l v11, .l v12, .l v13])
    (let r1 : Rs := (Rt.res (m_key_Encode [U.l [[pI (uI (out r0 0) 0), pI (uI (out r0 0) 1), pS (uS (out r0 0) 2)]]]))
    (.test (ok r1 0)
    (let r2 : Rs := (lres rd_query_Product_9_13 [U.l v0, U.i v1, U.i v2, U.l (lkM v12 (uS (out r1 0) 0)), U.i (ln (lkM v12 (uS (out r1 0) 0))), U.i (0 : Int), U.s v3, U.s v4, U.s v5, U.i v6, U.i v7, U.l v8, U.l v9, U.b v10, U.l v11, U.l v12, U.l v13, U.l (cL (el v0 v2) 0), U.i (cI (el v0 v2) 1)])
    (.test (ok r2 0)
    (.stop 0 [.i (uI (out r2 0) 0)])
    (.test (ok r2 1)
    (.next [.l (uL (out r2 1) 0), .i (uI (out r2 1) 1), .i (w64 (uI (out r2 1) 2 + (1 : Int))), .s (uS (out r2 1) 3), .s (uS (out r2 1) 4), .s (uS (out r2 1) 5), .i (uI (out r2 1) 6), .i (uI (out r2 1) 7), .l (uL (out r2 1) 8), .l (uL (out r2 1) 9), .b (uB (out r2 1) 10), .l (uL (out r2 1) 11), .l (uL (out r2 1) 12), .l (uL (out r2 1) 13)])
    .fail)))
    .fail)))
    .fail))
    .fail)
    (.stop 1 [.l v13]))
  | _ => .fail
def sp_query_Product_9_8 : LSp := ⟨104, ⟨[(3, .one (.ptr 0 0)), (8, .one (.mp 1)), (9, .one (.all 2)), (36, .one (.l 54)), (37, .one (.i .i64)), (38, .one (.i .i64))], [.box 28 [.one (.s), .one (.s), .one (.s), .one (.i .i64), .one (.i .i64), .one (.l 58), .one (.l 3), .one (.b), .one (.l 165)], .map 29 true, .arr 54 true]⟩, [(.ret, ⟨[(6, .one (.nils)), (7, .one (.i .i64))], []⟩), (.exit 0, ⟨[(9, .one (.all 0))], [.arr 54 true]⟩)]⟩
set_option maxRecDepth 100000 in
theorem rq_query_Product_9_8 (v0 : List (List PV)) (v1 : Int) (v2 : Int) (v3 : ByteArray) (v4 : ByteArray) (v5 : ByteArray) (v6 : Int) (v7 : Int) (v8 : List (List PV)) (v9 : List (List PV)) (v10 : Bool) (v11 : List (List PV)) (v12 : List (List PV)) (v13 : List (List PV)) : runK br Tryz.prog (callK br Tryz.prog X111 M_query_Product L_query_Product (lsT ll_query_Product_9_13) 40) M_query_Product (lsT ll_query_Product_9_13 9 0) 40 0 (L_query_Product 9) (bodyOf Tryz.prog 9 8) (sp_query_Product_9_8.s.ts sp_query_Product_9_8.n [.l v0, .i v1, .i v2, .s v3, .s v4, .s v5, .i v6, .i v7, .l v8, .l v9, .b v10, .l v11, .l v12, .l v13]) (sp_query_Product_9_8.s.h [.l v0, .i v1, .i v2, .s v3, .s v4, .s v5, .i v6, .i v7, .l v8, .l v9, .b v10, .l v11, .l v12, .l v13]) (idc Tryz.prog 0 (L_query_Product 9) 8) =
    (rd_query_Product_9_8 [.l v0, .i v1, .i v2, .s v3, .s v4, .s v5, .i v6, .i v7, .l v8, .l v9, .b v10, .l v11, .l v12, .l v13]).go br (fun us' => some (.normal, sp_query_Product_9_8.s.ts sp_query_Product_9_8.n us', sp_query_Product_9_8.s.h us')) sp_query_Product_9_8.fin := by
  rw [← callF_eq, ← runF_eq]; kernel_rfl
theorem lo_query_Product_9_8 {R : Type} : LoopTells Tryz.prog X111 M_query_Product L_query_Product 0 (L_query_Product 9) (bodyOf Tryz.prog 9 8) (gL (R := R) sp_query_Product_9_8 rd_query_Product_9_8 br) :=
  loopTold (callK_ev (loopsOK_list rids lk_query_Product_9_13) 40) (lsokIn (loopsOK_list rids lk_query_Product_9_13) 9 0 8) (by kernel_rfl) sp_query_Product_9_8 rd_query_Product_9_8 rfl (by kernel_rfl) (by
    intro us v h; unfold rd_query_Product_9_8 at h; split at h
    · rename_i v0 v1 v2 v3 v4 v5 v6 v7 v8 v9 v10 v11 v12 v13; exact rq_query_Product_9_8 v0 v1 v2 v3 v4 v5 v6 v7 v8 v9 v10 v11 v12 v13
    · cases h)
noncomputable abbrev ll_query_Product_9_8 {R : Type} : List (Nat × Nat × Nat × Smy R) := (9, 0, 8, gL sp_query_Product_9_8 rd_query_Product_9_8 br) :: ll_query_Product_9_13
theorem lk_query_Product_9_8 {R : Type} : ∀ e ∈ ll_query_Product_9_8 (R := R), LoopTells Tryz.prog X111 M_query_Product L_query_Product e.2.1 (L_query_Product e.1) (bodyOf Tryz.prog e.1 e.2.2.1) e.2.2.2 := List.forall_mem_cons.2 ⟨lo_query_Product_9_8, lk_query_Product_9_13⟩
def S_query_Product : FSp := ⟨[.agg [.s, .s, .s, .i .i64, .i .i64, .l 58, .l 3, .b, .l 165], .one (.l 54), .one (.l 54)], [], [109000000], [([.one (.all 0), .one (.i .i64)], [.arr 54 true])]⟩
noncomputable def m_query_Product : List U → Rt
  | [.s v0, .s v1, .s v2, .i v3, .i v4, .l v5, .l v6, .b v7, .l v8, .l v9, .l v10] =>
    (let r0 : Rs := (Rt.res (m_bag_May [U.l v9]))
    (.test (ok r0 0)
    (.test (!uB (out r0 0) 0)
    (.stop 0 [.i ((0 : Int)), .l []])
    (let r1 : Rs := (Rt.res (m_bag_May [U.l v10]))
    (.test (ok r1 0)
    (.test (!uB (out r1 0) 0)
    (.stop 0 [.i ((0 : Int)), .l []])
    (.test (ByteArray.toList v2 == [])
    (let r2 : Rs := (Rt.res (m_bag_Plus [U.l [[PV.lst 54 v9]]]))
    (.test (ok r2 0)
    (.stop 0 [.i ((0 : Int)), .l (uL (out r2 0) 0)])
    .fail))
    (let r3 : Rs := (Rt.res (m_query_index [U.l v10, U.i v4]))
    (.test (ok r3 0)
    (let r4 : Rs := (lres rd_query_Product_9_8 [U.l v9, U.i (ln v9), U.i (0 : Int), U.s v0, U.s v1, U.s v2, U.i v3, U.i v4, U.l v5, U.l v6, U.b v7, U.l v8, U.l (uL (out r3 0) 0), U.l []])
    (.test (ok r4 0)
    (.stop 0 [.i (uI (out r4 0) 0), .l []])
    (.test (ok r4 1)
    (let r5 : Rs := (Rt.res (m_bag_Sum [U.l (uL (out r4 1) 0)]))
    (.test (ok r5 0)
    (let r6 : Rs := (Rt.res (m_bag_May [U.l (uL (out r5 0) 0)]))
    (.test (ok r6 0)
    (.test (!uB (out r6 0) 0)
    (.stop 0 [.i ((100 : Int)), .l []])
    (.stop 0 [.i ((0 : Int)), .l (uL (out r5 0) 0)]))
    .fail))
    .fail))
    .fail)))
    .fail))))
    .fail)))
    .fail))
  | _ => .fail
set_option maxRecDepth 100000 in
theorem q_query_Product (v0 : ByteArray) (v1 : ByteArray) (v2 : ByteArray) (v3 : Int) (v4 : Int) (v5 : List (List PV)) (v6 : List (List PV)) (v7 : Bool) (v8 : List (List PV)) (v9 : List (List PV)) (v10 : List (List PV)) : callK br Tryz.prog X111 M_query_Product L_query_Product (lsT ll_query_Product_9_8) 60 9 (encs [.s v0, .s v1, .s v2, .i v3, .i v4, .l v5, .l v6, .b v7, .l v8, .l v9, .l v10] 0 S_query_Product.ap) (encH [.s v0, .s v1, .s v2, .i v3, .i v4, .l v5, .l v6, .b v7, .l v8, .l v9, .l v10] (ws S_query_Product.ap) S_query_Product.ah) (fun y => fixR Tryz.prog S_query_Product.plan S_query_Product.ah.length y) =
    (m_query_Product [.s v0, .s v1, .s v2, .i v3, .i v4, .l v5, .l v6, .b v7, .l v8, .l v9, .l v10]).go br (fun _ => none) S_query_Product.fin := by
  rw [← callF_eq]; kernel_rfl
theorem e_query_Product : EOK Tryz.prog 9 (gF S_query_Product m_query_Product) :=
  eokTold mixed named x111 (loopsOK_list rids lk_query_Product_9_8) 60 S_query_Product m_query_Product (by
    intro us v h; unfold m_query_Product at h; split at h
    · rename_i v0 v1 v2 v3 v4 v5 v6 v7 v8 v9 v10; exact q_query_Product v0 v1 v2 v3 v4 v5 v6 v7 v8 v9 v10
    · cases h) false
noncomputable abbrev X112 : Ext := extT [(9, (gF S_query_Product m_query_Product))] X111
theorem x112 : XOK Tryz.prog X112 := xok1 x111 e_query_Product

def L_expr_takes : FuncId → Nat → Option (List Nat) := liveT []
def M_expr_takes : FuncId → Bool := fun _ => false
def S_expr_takes : FSp := ⟨[.one (.i .i64)], [], [], [([.one (.i .i64)], [])]⟩
noncomputable def m_expr_takes : List U → Rt
  | [.i v0] =>
    (.test (v0 == (0 : Int))
    (.stop 0 [.i ((0 : Int))])
    (.test (v0 == (1 : Int))
    (.stop 0 [.i ((0 : Int))])
    (.test (v0 == (9 : Int))
    (.stop 0 [.i ((1 : Int))])
    (.test (v0 == (10 : Int))
    (.stop 0 [.i ((1 : Int))])
    (.test (v0 == (2 : Int))
    (.stop 0 [.i ((2 : Int))])
    (.test (v0 == (3 : Int))
    (.stop 0 [.i ((2 : Int))])
    (.test (v0 == (4 : Int))
    (.stop 0 [.i ((2 : Int))])
    (.test (v0 == (5 : Int))
    (.stop 0 [.i ((2 : Int))])
    (.test (v0 == (6 : Int))
    (.stop 0 [.i ((2 : Int))])
    (.test (v0 == (7 : Int))
    (.stop 0 [.i ((2 : Int))])
    (.test (v0 == (8 : Int))
    (.stop 0 [.i ((2 : Int))])
    (.stop 0 [.i ((-1 : Int))]))))))))))))
  | _ => .fail
set_option maxRecDepth 100000 in
theorem q_expr_takes (v0 : Int) : callK br Tryz.prog X112 M_expr_takes L_expr_takes (lsT []) 60 91 (encs [.i v0] 0 S_expr_takes.ap) (encH [.i v0] (ws S_expr_takes.ap) S_expr_takes.ah) (fun y => fixR Tryz.prog S_expr_takes.plan S_expr_takes.ah.length y) =
    (m_expr_takes [.i v0]).go br (fun _ => none) S_expr_takes.fin := by
  rw [← callF_eq]; kernel_rfl
theorem e_expr_takes : EOK Tryz.prog 91 (gF S_expr_takes m_expr_takes) :=
  eokTold mixed named x112 (loopsOK_list rids noneIn) 60 S_expr_takes m_expr_takes (by
    intro us v h; unfold m_expr_takes at h; split at h
    · rename_i v0; exact q_expr_takes v0
    · cases h) false
noncomputable abbrev X113 : Ext := extT [(91, (gF S_expr_takes m_expr_takes))] X112
theorem x113 : XOK Tryz.prog X113 := xok1 x112 e_expr_takes

def L_expr_all : FuncId → Nat → Option (List Nat) := liveT [(107, 2, [0, 7, 8, 9]), (107, 1000002, []), (107, 2000002, [4])]
def M_expr_all : FuncId → Bool := fun _ => false
noncomputable def rd_expr_all_107_2 : List U → Rt
  | [.i v0, .l v1, .i v2, .i v3] =>
    (.test (decide (v3 < v2))
    (.test (inR v3 (ln v1))
    (.test (cI (el v1 v3) 0 != v0)
    (.test (cI (el v1 v3) 0 != (0 : Int))
    (.stop 0 [.b false])
    (.next [.i v0, .l v1, .i v2, .i (w64 (v3 + (1 : Int)))]))
    (.next [.i v0, .l v1, .i v2, .i (w64 (v3 + (1 : Int)))]))
    .fail)
    (.stop 1 []))
  | _ => .fail
def sp_expr_all_107_2 : LSp := ⟨21, ⟨[(0, .one (.i .i64)), (7, .one (.l 3)), (8, .one (.i .i64)), (9, .one (.i .i64))], []⟩, [(.ret, ⟨[(4, .one (.b))], []⟩), (.exit 0, ⟨[], []⟩)]⟩
set_option maxRecDepth 100000 in
theorem rq_expr_all_107_2 (v0 : Int) (v1 : List (List PV)) (v2 : Int) (v3 : Int) : runK br Tryz.prog (callK br Tryz.prog X113 M_expr_all L_expr_all (lsT []) 40) M_expr_all (lsT [] 107 0) 40 0 (L_expr_all 107) (bodyOf Tryz.prog 107 2) (sp_expr_all_107_2.s.ts sp_expr_all_107_2.n [.i v0, .l v1, .i v2, .i v3]) (sp_expr_all_107_2.s.h [.i v0, .l v1, .i v2, .i v3]) (idc Tryz.prog 0 (L_expr_all 107) 2) =
    (rd_expr_all_107_2 [.i v0, .l v1, .i v2, .i v3]).go br (fun us' => some (.normal, sp_expr_all_107_2.s.ts sp_expr_all_107_2.n us', sp_expr_all_107_2.s.h us')) sp_expr_all_107_2.fin := by
  rw [← callF_eq, ← runF_eq]; kernel_rfl
theorem lo_expr_all_107_2 {R : Type} : LoopTells Tryz.prog X113 M_expr_all L_expr_all 0 (L_expr_all 107) (bodyOf Tryz.prog 107 2) (gL (R := R) sp_expr_all_107_2 rd_expr_all_107_2 br) :=
  loopTold (callK_ev (loopsOK_list rids noneIn) 40) (lsokIn (loopsOK_list rids noneIn) 107 0 2) (by kernel_rfl) sp_expr_all_107_2 rd_expr_all_107_2 rfl (by kernel_rfl) (by
    intro us v h; unfold rd_expr_all_107_2 at h; split at h
    · rename_i v0 v1 v2 v3; exact rq_expr_all_107_2 v0 v1 v2 v3
    · cases h)
noncomputable abbrev ll_expr_all_107_2 {R : Type} : List (Nat × Nat × Nat × Smy R) := (107, 0, 2, gL sp_expr_all_107_2 rd_expr_all_107_2 br) :: []
theorem lk_expr_all_107_2 {R : Type} : ∀ e ∈ ll_expr_all_107_2 (R := R), LoopTells Tryz.prog X113 M_expr_all L_expr_all e.2.1 (L_expr_all e.1) (bodyOf Tryz.prog e.1 e.2.2.1) e.2.2.2 := List.forall_mem_cons.2 ⟨lo_expr_all_107_2, noneIn⟩
def S_expr_all : FSp := ⟨[.one (.i .i64), .one (.l 3)], [], [], [([.one (.b)], [])]⟩
noncomputable def m_expr_all : List U → Rt
  | [.i v0, .l v1] =>
    (let r0 : Rs := (lres rd_expr_all_107_2 [U.i v0, U.l v1, U.i (ln v1), U.i (0 : Int)])
    (.test (ok r0 0)
    (.stop 0 [.b (uB (out r0 0) 0)])
    (.test (ok r0 1)
    (.stop 0 [.b true])
    .fail)))
  | _ => .fail
set_option maxRecDepth 100000 in
theorem q_expr_all (v0 : Int) (v1 : List (List PV)) : callK br Tryz.prog X113 M_expr_all L_expr_all (lsT ll_expr_all_107_2) 60 107 (encs [.i v0, .l v1] 0 S_expr_all.ap) (encH [.i v0, .l v1] (ws S_expr_all.ap) S_expr_all.ah) (fun y => fixR Tryz.prog S_expr_all.plan S_expr_all.ah.length y) =
    (m_expr_all [.i v0, .l v1]).go br (fun _ => none) S_expr_all.fin := by
  rw [← callF_eq]; kernel_rfl
theorem e_expr_all : EOK Tryz.prog 107 (gF S_expr_all m_expr_all) :=
  eokTold mixed named x113 (loopsOK_list rids lk_expr_all_107_2) 60 S_expr_all m_expr_all (by
    intro us v h; unfold m_expr_all at h; split at h
    · rename_i v0 v1; exact q_expr_all v0 v1
    · cases h) false
noncomputable abbrev X114 : Ext := extT [(107, (gF S_expr_all m_expr_all))] X113
theorem x114 : XOK Tryz.prog X114 := xok1 x113 e_expr_all

def L_expr_leaves : FuncId → Nat → Option (List Nat) := liveT []
def M_expr_leaves : FuncId → Bool := fun _ => false
def S_expr_leaves : FSp := ⟨[.one (.i .i64), .one (.l 3)], [], [], [([.one (.i .i64), .one (.b)], [])]⟩
noncomputable def m_expr_leaves : List U → Rt
  | [.i v0, .l v1] =>
    (.test (v0 == (2 : Int))
    (let r0 : Rs := (Rt.res (m_expr_all [U.i (2 : Int), U.l v1]))
    (.test (ok r0 0)
    (.stop 0 [.i ((2 : Int)), .b (uB (out r0 0) 0)])
    .fail))
    (.test (v0 == (3 : Int))
    (let r1 : Rs := (Rt.res (m_expr_all [U.i (2 : Int), U.l v1]))
    (.test (ok r1 0)
    (.stop 0 [.i ((2 : Int)), .b (uB (out r1 0) 0)])
    .fail))
    (.test (v0 == (4 : Int))
    (let r2 : Rs := (Rt.res (m_expr_all [U.i (2 : Int), U.l v1]))
    (.test (ok r2 0)
    (.stop 0 [.i ((2 : Int)), .b (uB (out r2 0) 0)])
    .fail))
    (.test (v0 == (5 : Int))
    (.test (inR (0 : Int) (ln v1))
    (.test (inR (1 : Int) (ln v1))
    (.test (cI (List.getD v1 0 []) 0 == cI (List.getD v1 1 []) 0)
    (.stop 0 [.i ((1 : Int)), .b true])
    (.test (inR (0 : Int) (ln v1))
    (.test (cI (List.getD v1 0 []) 0 == (0 : Int))
    (.stop 0 [.i ((1 : Int)), .b true])
    (.test (inR (1 : Int) (ln v1))
    (.stop 0 [.i ((1 : Int)), .b (cI (List.getD v1 1 []) 0 == (0 : Int))])
    .fail))
    .fail))
    .fail)
    .fail)
    (.test (v0 == (6 : Int))
    (.test (inR (0 : Int) (ln v1))
    (.test (inR (1 : Int) (ln v1))
    (.test (cI (List.getD v1 0 []) 0 == cI (List.getD v1 1 []) 0)
    (.stop 0 [.i ((1 : Int)), .b true])
    (.test (inR (0 : Int) (ln v1))
    (.test (cI (List.getD v1 0 []) 0 == (0 : Int))
    (.stop 0 [.i ((1 : Int)), .b true])
    (.test (inR (1 : Int) (ln v1))
    (.stop 0 [.i ((1 : Int)), .b (cI (List.getD v1 1 []) 0 == (0 : Int))])
    .fail))
    .fail))
    .fail)
    .fail)
    (.test (v0 == (7 : Int))
    (let r3 : Rs := (Rt.res (m_expr_all [U.i (1 : Int), U.l v1]))
    (.test (ok r3 0)
    (.stop 0 [.i ((1 : Int)), .b (uB (out r3 0) 0)])
    .fail))
    (.test (v0 == (8 : Int))
    (let r4 : Rs := (Rt.res (m_expr_all [U.i (1 : Int), U.l v1]))
    (.test (ok r4 0)
    (.stop 0 [.i ((1 : Int)), .b (uB (out r4 0) 0)])
    .fail))
    (.test (v0 == (9 : Int))
    (let r5 : Rs := (Rt.res (m_expr_all [U.i (1 : Int), U.l v1]))
    (.test (ok r5 0)
    (.stop 0 [.i ((1 : Int)), .b (uB (out r5 0) 0)])
    .fail))
    (.stop 0 [.i ((1 : Int)), .b true])))))))))
  | _ => .fail
set_option maxRecDepth 100000 in
theorem q_expr_leaves (v0 : Int) (v1 : List (List PV)) : callK br Tryz.prog X114 M_expr_leaves L_expr_leaves (lsT []) 60 94 (encs [.i v0, .l v1] 0 S_expr_leaves.ap) (encH [.i v0, .l v1] (ws S_expr_leaves.ap) S_expr_leaves.ah) (fun y => fixR Tryz.prog S_expr_leaves.plan S_expr_leaves.ah.length y) =
    (m_expr_leaves [.i v0, .l v1]).go br (fun _ => none) S_expr_leaves.fin := by
  rw [← callF_eq]; kernel_rfl
theorem e_expr_leaves : EOK Tryz.prog 94 (gF S_expr_leaves m_expr_leaves) :=
  eokTold mixed named x114 (loopsOK_list rids noneIn) 60 S_expr_leaves m_expr_leaves (by
    intro us v h; unfold m_expr_leaves at h; split at h
    · rename_i v0 v1; exact q_expr_leaves v0 v1
    · cases h) false
noncomputable abbrev X115 : Ext := extT [(94, (gF S_expr_leaves m_expr_leaves))] X114
theorem x115 : XOK Tryz.prog X115 := xok1 x114 e_expr_leaves

def L_value_Add : FuncId → Nat → Option (List Nat) := liveT []
def M_value_Add : FuncId → Bool := fun _ => false
def S_value_Add : FSp := ⟨[.agg [.i .i64, .i .i64, .s], .agg [.i .i64, .i .i64, .s]], [], [], [([.agg [.i .i64, .i .i64, .s], .one (.b)], [])]⟩
noncomputable def m_value_Add : List U → Rt
  | [.i v0, .i v1, .s v2, .i v3, .i v4, .s v5] =>
    (.test (v0 == (0 : Int))
    (.stop 0 [.i ((0 : Int)), .i ((0 : Int)), .s ({ data := #[] }), .b true])
    (.test (v3 == (0 : Int))
    (.stop 0 [.i ((0 : Int)), .i ((0 : Int)), .s ({ data := #[] }), .b true])
    (.test (v0 != (2 : Int))
    (.stop 0 [.i ((0 : Int)), .i ((0 : Int)), .s ({ data := #[] }), .b false])
    (.test (v3 != (2 : Int))
    (.stop 0 [.i ((0 : Int)), .i ((0 : Int)), .s ({ data := #[] }), .b false])
    (.test (decide (w64 (v1 + v4) > v1) == decide (v4 > (0 : Int)))
    (.stop 0 [.i ((2 : Int)), .i (w64 (v1 + v4)), .s ({ data := #[] }), .b true])
    (.test (!v4 == (0 : Int))
    (.stop 0 [.i ((0 : Int)), .i ((0 : Int)), .s ({ data := #[] }), .b false])
    (.stop 0 [.i ((2 : Int)), .i (w64 (v1 + v4)), .s ({ data := #[] }), .b true])))))))
  | _ => .fail
set_option maxRecDepth 100000 in
theorem q_value_Add (v0 : Int) (v1 : Int) (v2 : ByteArray) (v3 : Int) (v4 : Int) (v5 : ByteArray) : callK br Tryz.prog X115 M_value_Add L_value_Add (lsT []) 60 108 (encs [.i v0, .i v1, .s v2, .i v3, .i v4, .s v5] 0 S_value_Add.ap) (encH [.i v0, .i v1, .s v2, .i v3, .i v4, .s v5] (ws S_value_Add.ap) S_value_Add.ah) (fun y => fixR Tryz.prog S_value_Add.plan S_value_Add.ah.length y) =
    (m_value_Add [.i v0, .i v1, .s v2, .i v3, .i v4, .s v5]).go br (fun _ => none) S_value_Add.fin := by
  rw [← callF_eq]; kernel_rfl
theorem e_value_Add : EOK Tryz.prog 108 (gF S_value_Add m_value_Add) :=
  eokTold mixed named x115 (loopsOK_list rids noneIn) 60 S_value_Add m_value_Add (by
    intro us v h; unfold m_value_Add at h; split at h
    · rename_i v0 v1 v2 v3 v4 v5; exact q_value_Add v0 v1 v2 v3 v4 v5
    · cases h) false
noncomputable abbrev X116 : Ext := extT [(108, (gF S_value_Add m_value_Add))] X115
theorem x116 : XOK Tryz.prog X116 := xok1 x115 e_value_Add

def L_value_Sub : FuncId → Nat → Option (List Nat) := liveT []
def M_value_Sub : FuncId → Bool := fun _ => false
def S_value_Sub : FSp := ⟨[.agg [.i .i64, .i .i64, .s], .agg [.i .i64, .i .i64, .s]], [], [], [([.agg [.i .i64, .i .i64, .s], .one (.b)], [])]⟩
noncomputable def m_value_Sub : List U → Rt
  | [.i v0, .i v1, .s v2, .i v3, .i v4, .s v5] =>
    (.test (v0 == (0 : Int))
    (.stop 0 [.i ((0 : Int)), .i ((0 : Int)), .s ({ data := #[] }), .b true])
    (.test (v3 == (0 : Int))
    (.stop 0 [.i ((0 : Int)), .i ((0 : Int)), .s ({ data := #[] }), .b true])
    (.test (v0 != (2 : Int))
    (.stop 0 [.i ((0 : Int)), .i ((0 : Int)), .s ({ data := #[] }), .b false])
    (.test (v3 != (2 : Int))
    (.stop 0 [.i ((0 : Int)), .i ((0 : Int)), .s ({ data := #[] }), .b false])
    (.test (decide (w64 (v1 - v4) < v1) == decide (v4 > (0 : Int)))
    (.stop 0 [.i ((2 : Int)), .i (w64 (v1 - v4)), .s ({ data := #[] }), .b true])
    (.test (!v4 == (0 : Int))
    (.stop 0 [.i ((0 : Int)), .i ((0 : Int)), .s ({ data := #[] }), .b false])
    (.stop 0 [.i ((2 : Int)), .i (w64 (v1 - v4)), .s ({ data := #[] }), .b true])))))))
  | _ => .fail
set_option maxRecDepth 100000 in
theorem q_value_Sub (v0 : Int) (v1 : Int) (v2 : ByteArray) (v3 : Int) (v4 : Int) (v5 : ByteArray) : callK br Tryz.prog X116 M_value_Sub L_value_Sub (lsT []) 60 109 (encs [.i v0, .i v1, .s v2, .i v3, .i v4, .s v5] 0 S_value_Sub.ap) (encH [.i v0, .i v1, .s v2, .i v3, .i v4, .s v5] (ws S_value_Sub.ap) S_value_Sub.ah) (fun y => fixR Tryz.prog S_value_Sub.plan S_value_Sub.ah.length y) =
    (m_value_Sub [.i v0, .i v1, .s v2, .i v3, .i v4, .s v5]).go br (fun _ => none) S_value_Sub.fin := by
  rw [← callF_eq]; kernel_rfl
theorem e_value_Sub : EOK Tryz.prog 109 (gF S_value_Sub m_value_Sub) :=
  eokTold mixed named x116 (loopsOK_list rids noneIn) 60 S_value_Sub m_value_Sub (by
    intro us v h; unfold m_value_Sub at h; split at h
    · rename_i v0 v1 v2 v3 v4 v5; exact q_value_Sub v0 v1 v2 v3 v4 v5
    · cases h) false
noncomputable abbrev X117 : Ext := extT [(109, (gF S_value_Sub m_value_Sub))] X116
theorem x117 : XOK Tryz.prog X117 := xok1 x116 e_value_Sub

def L_value_amount : FuncId → Nat → Option (List Nat) := liveT []
def M_value_amount : FuncId → Bool := fun _ => false
def S_value_amount : FSp := ⟨[.one (.i .i64)], [], [], [([.one (.i .u64)], [])]⟩
noncomputable def m_value_amount : List U → Rt
  | [.i v0] =>
    (.test (decide (v0 < (0 : Int)))
    (.stop 0 [.i (IntKind.wrap IntKind.u64 ((0 : Int) - IntKind.wrap IntKind.u64 v0))])
    (.stop 0 [.i (IntKind.wrap IntKind.u64 v0)]))
  | _ => .fail
set_option maxRecDepth 100000 in
theorem q_value_amount (v0 : Int) : callK br Tryz.prog X117 M_value_amount L_value_amount (lsT []) 60 126 (encs [.i v0] 0 S_value_amount.ap) (encH [.i v0] (ws S_value_amount.ap) S_value_amount.ah) (fun y => fixR Tryz.prog S_value_amount.plan S_value_amount.ah.length y) =
    (m_value_amount [.i v0]).go br (fun _ => none) S_value_amount.fin := by
  rw [← callF_eq]; kernel_rfl
theorem e_value_amount : EOK Tryz.prog 126 (gF S_value_amount m_value_amount) :=
  eokTold mixed named x117 (loopsOK_list rids noneIn) 60 S_value_amount m_value_amount (by
    intro us v h; unfold m_value_amount at h; split at h
    · rename_i v0; exact q_value_amount v0
    · cases h) false
noncomputable abbrev X118 : Ext := extT [(126, (gF S_value_amount m_value_amount))] X117
theorem x118 : XOK Tryz.prog X118 := xok1 x117 e_value_amount

def L_value_Mul : FuncId → Nat → Option (List Nat) := liveT []
def M_value_Mul : FuncId → Bool := fun _ => false
def S_value_Mul : FSp := ⟨[.agg [.i .i64, .i .i64, .s], .agg [.i .i64, .i .i64, .s]], [], [], [([.agg [.i .i64, .i .i64, .s], .one (.b)], [])]⟩
noncomputable def m_value_Mul : List U → Rt
  | [.i v0, .i v1, .s v2, .i v3, .i v4, .s v5] =>
    (.test (v0 == (0 : Int))
    (.stop 0 [.i ((0 : Int)), .i ((0 : Int)), .s ({ data := #[] }), .b true])
    (.test (v3 == (0 : Int))
    (.stop 0 [.i ((0 : Int)), .i ((0 : Int)), .s ({ data := #[] }), .b true])
    (.test (v0 != (2 : Int))
    (.stop 0 [.i ((0 : Int)), .i ((0 : Int)), .s ({ data := #[] }), .b false])
    (.test (v3 != (2 : Int))
    (.stop 0 [.i ((0 : Int)), .i ((0 : Int)), .s ({ data := #[] }), .b false])
    (let r0 : Rs := (Rt.res (m_value_amount [U.i v1]))
    (.test (ok r0 0)
    (let r1 : Rs := (Rt.res (m_value_amount [U.i v4]))
    (.test (ok r1 0)
    (.test (inU64 (uI (out r0 0) 0) && inU64 (uI (out r1 0) 0))
    (.test (mulHi (uI (out r0 0) 0) (uI (out r1 0) 0) == (0 : Int))
    (.test (decide (mulLo (uI (out r0 0) 0) (uI (out r1 0) 0) < (9223372036854775808 : Int)))
    (.stop 0 [.i ((2 : Int)), .i (w64 (v1 * v4)), .s ({ data := #[] }), .b true])
    (.test (mulLo (uI (out r0 0) 0) (uI (out r1 0) 0) == (9223372036854775808 : Int))
    (.test (!!decide (v1 < (0 : Int)) == decide (v4 < (0 : Int)))
    (.stop 0 [.i ((0 : Int)), .i ((0 : Int)), .s ({ data := #[] }), .b false])
    (.stop 0 [.i ((2 : Int)), .i (w64 (v1 * v4)), .s ({ data := #[] }), .b true]))
    (.stop 0 [.i ((0 : Int)), .i ((0 : Int)), .s ({ data := #[] }), .b false])))
    (.stop 0 [.i ((0 : Int)), .i ((0 : Int)), .s ({ data := #[] }), .b false]))
    .fail)
    .fail))
    .fail))))))
  | _ => .fail
set_option maxRecDepth 100000 in
theorem q_value_Mul (v0 : Int) (v1 : Int) (v2 : ByteArray) (v3 : Int) (v4 : Int) (v5 : ByteArray) : callK br Tryz.prog X118 M_value_Mul L_value_Mul (lsT []) 60 110 (encs [.i v0, .i v1, .s v2, .i v3, .i v4, .s v5] 0 S_value_Mul.ap) (encH [.i v0, .i v1, .s v2, .i v3, .i v4, .s v5] (ws S_value_Mul.ap) S_value_Mul.ah) (fun y => fixR Tryz.prog S_value_Mul.plan S_value_Mul.ah.length y) =
    (m_value_Mul [.i v0, .i v1, .s v2, .i v3, .i v4, .s v5]).go br (fun _ => none) S_value_Mul.fin := by
  rw [← callF_eq]; kernel_rfl
theorem e_value_Mul : EOK Tryz.prog 110 (gF S_value_Mul m_value_Mul) :=
  eokTold mixed named x118 (loopsOK_list rids noneIn) 60 S_value_Mul m_value_Mul (by
    intro us v h; unfold m_value_Mul at h; split at h
    · rename_i v0 v1 v2 v3 v4 v5; exact q_value_Mul v0 v1 v2 v3 v4 v5
    · cases h) false
noncomputable abbrev X119 : Ext := extT [(110, (gF S_value_Mul m_value_Mul))] X118
theorem x119 : XOK Tryz.prog X119 := xok1 x118 e_value_Mul

def L_value_Truth : FuncId → Nat → Option (List Nat) := liveT []
def M_value_Truth : FuncId → Bool := fun _ => false
def S_value_Truth : FSp := ⟨[.one (.b)], [], [], [([.agg [.i .i64, .i .i64, .s]], [])]⟩
noncomputable def m_value_Truth : List U → Rt
  | [.b v0] =>
    (.test v0
    (.stop 0 [.i ((1 : Int)), .i ((1 : Int)), .s ({ data := #[] })])
    (.stop 0 [.i ((1 : Int)), .i ((0 : Int)), .s ({ data := #[] })]))
  | _ => .fail
set_option maxRecDepth 100000 in
theorem q_value_Truth (v0 : Bool) : callK br Tryz.prog X119 M_value_Truth L_value_Truth (lsT []) 60 67 (encs [.b v0] 0 S_value_Truth.ap) (encH [.b v0] (ws S_value_Truth.ap) S_value_Truth.ah) (fun y => fixR Tryz.prog S_value_Truth.plan S_value_Truth.ah.length y) =
    (m_value_Truth [.b v0]).go br (fun _ => none) S_value_Truth.fin := by
  rw [← callF_eq]; kernel_rfl
theorem e_value_Truth : EOK Tryz.prog 67 (gF S_value_Truth m_value_Truth) :=
  eokTold mixed named x119 (loopsOK_list rids noneIn) 60 S_value_Truth m_value_Truth (by
    intro us v h; unfold m_value_Truth at h; split at h
    · rename_i v0; exact q_value_Truth v0
    · cases h) false
noncomputable abbrev X120 : Ext := extT [(67, (gF S_value_Truth m_value_Truth))] X119
theorem x120 : XOK Tryz.prog X120 := xok1 x119 e_value_Truth

def L_slices_Index_ : FuncId → Nat → Option (List Nat) := liveT [(132, 2, [0, 3, 7, 8]), (132, 1000002, []), (132, 2000002, [4])]
def M_slices_Index_ : FuncId → Bool := fun _ => false
noncomputable def rd_slices_Index__132_2 : List U → Rt
  | [.l v0, .i v1, .i v2, .i v3, .i v4, .s v5] =>
    (.test (decide (v2 < v1))
    (.test (inR v2 (ln v0))
    (.test (v3 == cI (el v0 v2) 0 && (v4 == cI (el v0 v2) 1 && (ByteArray.toList v5 == ByteArray.toList (cS (el v0 v2) 2) && true)))
    (.stop 0 [.i v2])
    (.next [.l v0, .i v1, .i (w64 (v2 + (1 : Int))), .i v3, .i v4, .s v5]))
    .fail)
    (.stop 1 []))
  | _ => .fail
def sp_slices_Index__132_2 : LSp := ⟨19, ⟨[(0, .one (.l 56)), (3, .one (.ptr 0 0)), (7, .one (.i .i64)), (8, .one (.i .i64))], [.box 56 [.one (.i .i64), .one (.i .i64), .one (.s)]]⟩, [(.ret, ⟨[(4, .one (.i .i64))], []⟩), (.exit 0, ⟨[], []⟩)]⟩
set_option maxRecDepth 100000 in
theorem rq_slices_Index__132_2 (v0 : List (List PV)) (v1 : Int) (v2 : Int) (v3 : Int) (v4 : Int) (v5 : ByteArray) : runK br Tryz.prog (callK br Tryz.prog X120 M_slices_Index_ L_slices_Index_ (lsT []) 40) M_slices_Index_ (lsT [] 132 0) 40 0 (L_slices_Index_ 132) (bodyOf Tryz.prog 132 2) (sp_slices_Index__132_2.s.ts sp_slices_Index__132_2.n [.l v0, .i v1, .i v2, .i v3, .i v4, .s v5]) (sp_slices_Index__132_2.s.h [.l v0, .i v1, .i v2, .i v3, .i v4, .s v5]) (idc Tryz.prog 0 (L_slices_Index_ 132) 2) =
    (rd_slices_Index__132_2 [.l v0, .i v1, .i v2, .i v3, .i v4, .s v5]).go br (fun us' => some (.normal, sp_slices_Index__132_2.s.ts sp_slices_Index__132_2.n us', sp_slices_Index__132_2.s.h us')) sp_slices_Index__132_2.fin := by
  rw [← callF_eq, ← runF_eq]; kernel_rfl
theorem lo_slices_Index__132_2 {R : Type} : LoopTells Tryz.prog X120 M_slices_Index_ L_slices_Index_ 0 (L_slices_Index_ 132) (bodyOf Tryz.prog 132 2) (gL (R := R) sp_slices_Index__132_2 rd_slices_Index__132_2 br) :=
  loopTold (callK_ev (loopsOK_list rids noneIn) 40) (lsokIn (loopsOK_list rids noneIn) 132 0 2) (by kernel_rfl) sp_slices_Index__132_2 rd_slices_Index__132_2 rfl (by kernel_rfl) (by
    intro us v h; unfold rd_slices_Index__132_2 at h; split at h
    · rename_i v0 v1 v2 v3 v4 v5; exact rq_slices_Index__132_2 v0 v1 v2 v3 v4 v5
    · cases h)
noncomputable abbrev ll_slices_Index__132_2 {R : Type} : List (Nat × Nat × Nat × Smy R) := (132, 0, 2, gL sp_slices_Index__132_2 rd_slices_Index__132_2 br) :: []
theorem lk_slices_Index__132_2 {R : Type} : ∀ e ∈ ll_slices_Index__132_2 (R := R), LoopTells Tryz.prog X120 M_slices_Index_ L_slices_Index_ e.2.1 (L_slices_Index_ e.1) (bodyOf Tryz.prog e.1 e.2.2.1) e.2.2.2 := List.forall_mem_cons.2 ⟨lo_slices_Index__132_2, noneIn⟩
def S_slices_Index_ : FSp := ⟨[.one (.l 56), .agg [.i .i64, .i .i64, .s]], [], [], [([.one (.i .i64)], [])]⟩
noncomputable def m_slices_Index_ : List U → Rt
  | [.l v0, .i v1, .i v2, .s v3] =>
    (let r0 : Rs := (lres rd_slices_Index__132_2 [U.l v0, U.i (ln v0), U.i (0 : Int), U.i v1, U.i v2, U.s v3])
    (.test (ok r0 0)
    (.stop 0 [.i (uI (out r0 0) 0)])
    (.test (ok r0 1)
    (.stop 0 [.i ((-1 : Int))])
    .fail)))
  | _ => .fail
set_option maxRecDepth 100000 in
theorem q_slices_Index_ (v0 : List (List PV)) (v1 : Int) (v2 : Int) (v3 : ByteArray) : callK br Tryz.prog X120 M_slices_Index_ L_slices_Index_ (lsT ll_slices_Index__132_2) 60 132 (encs [.l v0, .i v1, .i v2, .s v3] 0 S_slices_Index_.ap) (encH [.l v0, .i v1, .i v2, .s v3] (ws S_slices_Index_.ap) S_slices_Index_.ah) (fun y => fixR Tryz.prog S_slices_Index_.plan S_slices_Index_.ah.length y) =
    (m_slices_Index_ [.l v0, .i v1, .i v2, .s v3]).go br (fun _ => none) S_slices_Index_.fin := by
  rw [← callF_eq]; kernel_rfl
theorem e_slices_Index_ : EOK Tryz.prog 132 (gF S_slices_Index_ m_slices_Index_) :=
  eokTold mixed named x120 (loopsOK_list rids lk_slices_Index__132_2) 60 S_slices_Index_ m_slices_Index_ (by
    intro us v h; unfold m_slices_Index_ at h; split at h
    · rename_i v0 v1 v2 v3; exact q_slices_Index_ v0 v1 v2 v3
    · cases h) false
noncomputable abbrev X121 : Ext := extT [(132, (gF S_slices_Index_ m_slices_Index_))] X120
theorem x121 : XOK Tryz.prog X121 := xok1 x120 e_slices_Index_

def L_slices_Contains_ : FuncId → Nat → Option (List Nat) := liveT []
def M_slices_Contains_ : FuncId → Bool := fun _ => false
def S_slices_Contains_ : FSp := ⟨[.one (.l 56), .agg [.i .i64, .i .i64, .s]], [], [], [([.one (.b)], [])]⟩
noncomputable def m_slices_Contains_ : List U → Rt
  | [.l v0, .i v1, .i v2, .s v3] =>
    (let r0 : Rs := (Rt.res (m_slices_Index_ [U.l v0, U.i v1, U.i v2, U.s v3]))
    (.test (ok r0 0)
    (.stop 0 [.b (decide (uI (out r0 0) 0 ≥ (0 : Int)))])
    .fail))
  | _ => .fail
set_option maxRecDepth 100000 in
theorem q_slices_Contains_ (v0 : List (List PV)) (v1 : Int) (v2 : Int) (v3 : ByteArray) : callK br Tryz.prog X121 M_slices_Contains_ L_slices_Contains_ (lsT []) 60 129 (encs [.l v0, .i v1, .i v2, .s v3] 0 S_slices_Contains_.ap) (encH [.l v0, .i v1, .i v2, .s v3] (ws S_slices_Contains_.ap) S_slices_Contains_.ah) (fun y => fixR Tryz.prog S_slices_Contains_.plan S_slices_Contains_.ah.length y) =
    (m_slices_Contains_ [.l v0, .i v1, .i v2, .s v3]).go br (fun _ => none) S_slices_Contains_.fin := by
  rw [← callF_eq]; kernel_rfl
theorem e_slices_Contains_ : EOK Tryz.prog 129 (gF S_slices_Contains_ m_slices_Contains_) :=
  eokTold mixed named x121 (loopsOK_list rids noneIn) 60 S_slices_Contains_ m_slices_Contains_ (by
    intro us v h; unfold m_slices_Contains_ at h; split at h
    · rename_i v0 v1 v2 v3; exact q_slices_Contains_ v0 v1 v2 v3
    · cases h) false
noncomputable abbrev X122 : Ext := extT [(129, (gF S_slices_Contains_ m_slices_Contains_))] X121
theorem x122 : XOK Tryz.prog X122 := xok1 x121 e_slices_Contains_

def L_value_fold : FuncId → Nat → Option (List Nat) := liveT [(133, 2, [0, 1, 7, 8]), (133, 1000002, []), (133, 2000002, [4])]
def M_value_fold : FuncId → Bool := fun _ => false
noncomputable def rd_value_fold_133_2 : List U → Rt
  | [.l v0, .i v1, .i v2, .i v3, .i v4, .s v5] =>
    (.test (decide (v2 < v1))
    (.test (inR v2 (ln v0))
    (.test (!(cI (el v0 v2) 0 == v3 && (cI (el v0 v2) 1 == v4 && (ByteArray.toList (cS (el v0 v2) 2) == ByteArray.toList v5 && true))))
    (.stop 0 [.i v2, .i v3, .i v4, .s v5])
    (.next [.l v0, .i v1, .i (w64 (v2 + (1 : Int))), .i v3, .i v4, .s v5]))
    .fail)
    (.stop 1 [.i v3, .i v4, .s v5]))
  | _ => .fail
def sp_value_fold_133_2 : LSp := ⟨19, ⟨[(0, .one (.l 56)), (1, .fn 131 [.ptr 0 0]), (7, .one (.i .i64)), (8, .one (.i .i64))], [.box 56 [.one (.i .i64), .one (.i .i64), .one (.s)]]⟩, [(.ret, ⟨[(4, .one (.i .i64))], [.box 56 [.one (.i .i64), .one (.i .i64), .one (.s)]]⟩), (.exit 0, ⟨[], [.box 56 [.one (.i .i64), .one (.i .i64), .one (.s)]]⟩)]⟩
set_option maxRecDepth 100000 in
theorem rq_value_fold_133_2 (v0 : List (List PV)) (v1 : Int) (v2 : Int) (v3 : Int) (v4 : Int) (v5 : ByteArray) : runK br Tryz.prog (callK br Tryz.prog X122 M_value_fold L_value_fold (lsT []) 40) M_value_fold (lsT [] 133 1) 40 1 (L_value_fold 133) (bodyOf Tryz.prog 133 2) (sp_value_fold_133_2.s.ts sp_value_fold_133_2.n [.l v0, .i v1, .i v2, .i v3, .i v4, .s v5]) (sp_value_fold_133_2.s.h [.l v0, .i v1, .i v2, .i v3, .i v4, .s v5]) (idc Tryz.prog 1 (L_value_fold 133) 2) =
    (rd_value_fold_133_2 [.l v0, .i v1, .i v2, .i v3, .i v4, .s v5]).go br (fun us' => some (.normal, sp_value_fold_133_2.s.ts sp_value_fold_133_2.n us', sp_value_fold_133_2.s.h us')) sp_value_fold_133_2.fin := by
  rw [← callF_eq, ← runF_eq]; kernel_rfl
theorem lo_value_fold_133_2 {R : Type} : LoopTells Tryz.prog X122 M_value_fold L_value_fold 1 (L_value_fold 133) (bodyOf Tryz.prog 133 2) (gL (R := R) sp_value_fold_133_2 rd_value_fold_133_2 br) :=
  loopTold (callK_ev (loopsOK_list rids noneIn) 40) (lsokIn (loopsOK_list rids noneIn) 133 1 2) (by kernel_rfl) sp_value_fold_133_2 rd_value_fold_133_2 rfl (by kernel_rfl) (by
    intro us v h; unfold rd_value_fold_133_2 at h; split at h
    · rename_i v0 v1 v2 v3 v4 v5; exact rq_value_fold_133_2 v0 v1 v2 v3 v4 v5
    · cases h)
noncomputable abbrev ll_value_fold_133_2 {R : Type} : List (Nat × Nat × Nat × Smy R) := (133, 1, 2, gL sp_value_fold_133_2 rd_value_fold_133_2 br) :: []
theorem lk_value_fold_133_2 {R : Type} : ∀ e ∈ ll_value_fold_133_2 (R := R), LoopTells Tryz.prog X122 M_value_fold L_value_fold e.2.1 (L_value_fold e.1) (bodyOf Tryz.prog e.1 e.2.2.1) e.2.2.2 := List.forall_mem_cons.2 ⟨lo_value_fold_133_2, noneIn⟩
def S_value_fold : FSp := ⟨[.one (.b), .one (.l 56)], [], [], [([.agg [.i .i64, .i .i64, .s]], [])]⟩
noncomputable def m_value_fold : List U → Rt
  | [.b v0, .l v1] =>
    (let r0 : Rs := (Rt.res (m_value_Truth [U.b v0]))
    (.test (ok r0 0)
    (let r1 : Rs := (Rt.res (m_value_Truth [U.b !v0]))
    (.test (ok r1 0)
    (let r2 : Rs := (Rt.res (m_slices_Contains_ [U.l v1, U.i (uI (out r0 0) 0), U.i (uI (out r0 0) 1), U.s (uS (out r0 0) 2)]))
    (.test (ok r2 0)
    (.test (uB (out r2 0) 0)
    (.stop 0 [.i (uI (out r0 0) 0), .i (uI (out r0 0) 1), .s (uS (out r0 0) 2)])
    (let r3 : Rs := (lres rd_value_fold_133_2 [U.l v1, U.i (ln v1), U.i (0 : Int), U.i (uI (out r1 0) 0), U.i (uI (out r1 0) 1), U.s (uS (out r1 0) 2)])
    (.test (ok r3 0)
    (.test (decide (uI (out r3 0) 0 ≥ (0 : Int)))
    (.stop 0 [.i ((0 : Int)), .i ((0 : Int)), .s ({ data := #[] })])
    (.stop 0 [.i (uI (out r3 0) 1), .i (uI (out r3 0) 2), .s (uS (out r3 0) 3)]))
    (.test (ok r3 1)
    (.stop 0 [.i (uI (out r3 1) 0), .i (uI (out r3 1) 1), .s (uS (out r3 1) 2)])
    .fail))))
    .fail))
    .fail))
    .fail))
  | _ => .fail
set_option maxRecDepth 100000 in
theorem q_value_fold (v0 : Bool) (v1 : List (List PV)) : callK br Tryz.prog X122 M_value_fold L_value_fold (lsT ll_value_fold_133_2) 60 127 (encs [.b v0, .l v1] 0 S_value_fold.ap) (encH [.b v0, .l v1] (ws S_value_fold.ap) S_value_fold.ah) (fun y => fixR Tryz.prog S_value_fold.plan S_value_fold.ah.length y) =
    (m_value_fold [.b v0, .l v1]).go br (fun _ => none) S_value_fold.fin := by
  rw [← callF_eq]; kernel_rfl
theorem e_value_fold : EOK Tryz.prog 127 (gF S_value_fold m_value_fold) :=
  eokTold mixed named x122 (loopsOK_list rids lk_value_fold_133_2) 60 S_value_fold m_value_fold (by
    intro us v h; unfold m_value_fold at h; split at h
    · rename_i v0 v1; exact q_value_fold v0 v1
    · cases h) false
noncomputable abbrev X123 : Ext := extT [(127, (gF S_value_fold m_value_fold))] X122
theorem x123 : XOK Tryz.prog X123 := xok1 x122 e_value_fold

def L_value_And : FuncId → Nat → Option (List Nat) := liveT []
def M_value_And : FuncId → Bool := fun _ => false
def S_value_And : FSp := ⟨[.one (.l 56)], [], [], [([.agg [.i .i64, .i .i64, .s]], [])]⟩
noncomputable def m_value_And : List U → Rt
  | [.l v0] =>
    (let r0 : Rs := (Rt.res (m_value_fold [U.b false, U.l v0]))
    (.test (ok r0 0)
    (.stop 0 [.i (uI (out r0 0) 0), .i (uI (out r0 0) 1), .s (uS (out r0 0) 2)])
    .fail))
  | _ => .fail
set_option maxRecDepth 100000 in
theorem q_value_And (v0 : List (List PV)) : callK br Tryz.prog X123 M_value_And L_value_And (lsT []) 60 111 (encs [.l v0] 0 S_value_And.ap) (encH [.l v0] (ws S_value_And.ap) S_value_And.ah) (fun y => fixR Tryz.prog S_value_And.plan S_value_And.ah.length y) =
    (m_value_And [.l v0]).go br (fun _ => none) S_value_And.fin := by
  rw [← callF_eq]; kernel_rfl
theorem e_value_And : EOK Tryz.prog 111 (gF S_value_And m_value_And) :=
  eokTold mixed named x123 (loopsOK_list rids noneIn) 60 S_value_And m_value_And (by
    intro us v h; unfold m_value_And at h; split at h
    · rename_i v0; exact q_value_And v0
    · cases h) false
noncomputable abbrev X124 : Ext := extT [(111, (gF S_value_And m_value_And))] X123
theorem x124 : XOK Tryz.prog X124 := xok1 x123 e_value_And

def L_value_Or : FuncId → Nat → Option (List Nat) := liveT []
def M_value_Or : FuncId → Bool := fun _ => false
def S_value_Or : FSp := ⟨[.one (.l 56)], [], [], [([.agg [.i .i64, .i .i64, .s]], [])]⟩
noncomputable def m_value_Or : List U → Rt
  | [.l v0] =>
    (let r0 : Rs := (Rt.res (m_value_fold [U.b true, U.l v0]))
    (.test (ok r0 0)
    (.stop 0 [.i (uI (out r0 0) 0), .i (uI (out r0 0) 1), .s (uS (out r0 0) 2)])
    .fail))
  | _ => .fail
set_option maxRecDepth 100000 in
theorem q_value_Or (v0 : List (List PV)) : callK br Tryz.prog X124 M_value_Or L_value_Or (lsT []) 60 112 (encs [.l v0] 0 S_value_Or.ap) (encH [.l v0] (ws S_value_Or.ap) S_value_Or.ah) (fun y => fixR Tryz.prog S_value_Or.plan S_value_Or.ah.length y) =
    (m_value_Or [.l v0]).go br (fun _ => none) S_value_Or.fin := by
  rw [← callF_eq]; kernel_rfl
theorem e_value_Or : EOK Tryz.prog 112 (gF S_value_Or m_value_Or) :=
  eokTold mixed named x124 (loopsOK_list rids noneIn) 60 S_value_Or m_value_Or (by
    intro us v h; unfold m_value_Or at h; split at h
    · rename_i v0; exact q_value_Or v0
    · cases h) false
noncomputable abbrev X125 : Ext := extT [(112, (gF S_value_Or m_value_Or))] X124
theorem x125 : XOK Tryz.prog X125 := xok1 x124 e_value_Or

def L_value_Not : FuncId → Nat → Option (List Nat) := liveT []
def M_value_Not : FuncId → Bool := fun _ => false
def S_value_Not : FSp := ⟨[.agg [.i .i64, .i .i64, .s]], [], [], [([.agg [.i .i64, .i .i64, .s]], [])]⟩
noncomputable def m_value_Not : List U → Rt
  | [.i v0, .i v1, .s v2] =>
    (.test (v0 == (1 : Int) && (v1 == (1 : Int) && (ByteArray.toList v2 == [] && true)))
    (.stop 0 [.i ((1 : Int)), .i ((0 : Int)), .s ({ data := #[] })])
    (.test (v0 == (1 : Int) && (v1 == (0 : Int) && (ByteArray.toList v2 == [] && true)))
    (.stop 0 [.i ((1 : Int)), .i ((1 : Int)), .s ({ data := #[] })])
    (.stop 0 [.i ((0 : Int)), .i ((0 : Int)), .s ({ data := #[] })])))
  | _ => .fail
set_option maxRecDepth 100000 in
theorem q_value_Not (v0 : Int) (v1 : Int) (v2 : ByteArray) : callK br Tryz.prog X125 M_value_Not L_value_Not (lsT []) 60 113 (encs [.i v0, .i v1, .s v2] 0 S_value_Not.ap) (encH [.i v0, .i v1, .s v2] (ws S_value_Not.ap) S_value_Not.ah) (fun y => fixR Tryz.prog S_value_Not.plan S_value_Not.ah.length y) =
    (m_value_Not [.i v0, .i v1, .s v2]).go br (fun _ => none) S_value_Not.fin := by
  rw [← callF_eq]; kernel_rfl
theorem e_value_Not : EOK Tryz.prog 113 (gF S_value_Not m_value_Not) :=
  eokTold mixed named x125 (loopsOK_list rids noneIn) 60 S_value_Not m_value_Not (by
    intro us v h; unfold m_value_Not at h; split at h
    · rename_i v0 v1 v2; exact q_value_Not v0 v1 v2
    · cases h) false
noncomputable abbrev X126 : Ext := extT [(113, (gF S_value_Not m_value_Not))] X125
theorem x126 : XOK Tryz.prog X126 := xok1 x125 e_value_Not

def L_expr_compare : FuncId → Nat → Option (List Nat) := liveT []
def M_expr_compare : FuncId → Bool := fun _ => false
def S_expr_compare : FSp := ⟨[.one (.i .i64), .agg [.i .i64, .i .i64, .s], .agg [.i .i64, .i .i64, .s]], [], [], [([.agg [.i .i64, .i .i64, .s]], [])]⟩
noncomputable def m_expr_compare : List U → Rt
  | [.i v0, .i v1, .i v2, .s v3, .i v4, .i v5, .s v6] =>
    (.test (v1 == (0 : Int))
    (.stop 0 [.i ((0 : Int)), .i ((0 : Int)), .s ({ data := #[] })])
    (.test (v4 == (0 : Int))
    (.stop 0 [.i ((0 : Int)), .i ((0 : Int)), .s ({ data := #[] })])
    (let r0 : Rs := (Rt.res (m_value_Compare [U.i v1, U.i v2, U.s v3, U.i v4, U.i v5, U.s v6]))
    (.test (ok r0 0)
    (.test (v0 == (5 : Int))
    (.test (uI (out r0 0) 0 == (0 : Int))
    (.stop 0 [.i ((1 : Int)), .i ((1 : Int)), .s ({ data := #[] })])
    (.test (v0 == (6 : Int))
    (let r1 : Rs := (Rt.res (m_value_Truth [U.b (decide (uI (out r0 0) 0 < (0 : Int)))]))
    (.test (ok r1 0)
    (.stop 0 [.i (uI (out r1 0) 0), .i (uI (out r1 0) 1), .s (uS (out r1 0) 2)])
    .fail))
    (.stop 0 [.i ((1 : Int)), .i ((0 : Int)), .s ({ data := #[] })])))
    (.test (v0 == (6 : Int))
    (let r2 : Rs := (Rt.res (m_value_Truth [U.b (decide (uI (out r0 0) 0 < (0 : Int)))]))
    (.test (ok r2 0)
    (.stop 0 [.i (uI (out r2 0) 0), .i (uI (out r2 0) 1), .s (uS (out r2 0) 2)])
    .fail))
    (.stop 0 [.i ((1 : Int)), .i ((0 : Int)), .s ({ data := #[] })])))
    .fail))))
  | _ => .fail
set_option maxRecDepth 100000 in
theorem q_expr_compare (v0 : Int) (v1 : Int) (v2 : Int) (v3 : ByteArray) (v4 : Int) (v5 : Int) (v6 : ByteArray) : callK br Tryz.prog X126 M_expr_compare L_expr_compare (lsT []) 60 114 (encs [.i v0, .i v1, .i v2, .s v3, .i v4, .i v5, .s v6] 0 S_expr_compare.ap) (encH [.i v0, .i v1, .i v2, .s v3, .i v4, .i v5, .s v6] (ws S_expr_compare.ap) S_expr_compare.ah) (fun y => fixR Tryz.prog S_expr_compare.plan S_expr_compare.ah.length y) =
    (m_expr_compare [.i v0, .i v1, .i v2, .s v3, .i v4, .i v5, .s v6]).go br (fun _ => none) S_expr_compare.fin := by
  rw [← callF_eq]; kernel_rfl
theorem e_expr_compare : EOK Tryz.prog 114 (gF S_expr_compare m_expr_compare) :=
  eokTold mixed named x126 (loopsOK_list rids noneIn) 60 S_expr_compare m_expr_compare (by
    intro us v h; unfold m_expr_compare at h; split at h
    · rename_i v0 v1 v2 v3 v4 v5 v6; exact q_expr_compare v0 v1 v2 v3 v4 v5 v6
    · cases h) false
noncomputable abbrev X127 : Ext := extT [(114, (gF S_expr_compare m_expr_compare))] X126
theorem x127 : XOK Tryz.prog X127 := xok1 x126 e_expr_compare

def L_expr_do : FuncId → Nat → Option (List Nat) := liveT []
def M_expr_do : FuncId → Bool := fun _ => false
def S_expr_do : FSp := ⟨[.one (.i .i64), .agg [.i .i64, .i .i64, .s], .agg [.i .i64, .i .i64, .s]], [], [], [([.agg [.i .i64, .i .i64, .s], .one (.b)], [])]⟩
noncomputable def m_expr_do : List U → Rt
  | [.i v0, .i v1, .i v2, .s v3, .i v4, .i v5, .s v6] =>
    (.test (v0 == (2 : Int))
    (let r0 : Rs := (Rt.res (m_value_Add [U.i v1, U.i v2, U.s v3, U.i v4, U.i v5, U.s v6]))
    (.test (ok r0 0)
    (.stop 0 [.i (uI (out r0 0) 0), .i (uI (out r0 0) 1), .s (uS (out r0 0) 2), .b (uB (out r0 0) 3)])
    .fail))
    (.test (v0 == (3 : Int))
    (let r1 : Rs := (Rt.res (m_value_Sub [U.i v1, U.i v2, U.s v3, U.i v4, U.i v5, U.s v6]))
    (.test (ok r1 0)
    (.stop 0 [.i (uI (out r1 0) 0), .i (uI (out r1 0) 1), .s (uS (out r1 0) 2), .b (uB (out r1 0) 3)])
    .fail))
    (.test (v0 == (4 : Int))
    (let r2 : Rs := (Rt.res (m_value_Mul [U.i v1, U.i v2, U.s v3, U.i v4, U.i v5, U.s v6]))
    (.test (ok r2 0)
    (.stop 0 [.i (uI (out r2 0) 0), .i (uI (out r2 0) 1), .s (uS (out r2 0) 2), .b (uB (out r2 0) 3)])
    .fail))
    (.test (v0 == (7 : Int))
    (let r3 : Rs := (Rt.res (m_value_And [U.l [[pI v1, pI v2, pS v3], [pI v4, pI v5, pS v6]]]))
    (.test (ok r3 0)
    (.stop 0 [.i (uI (out r3 0) 0), .i (uI (out r3 0) 1), .s (uS (out r3 0) 2), .b true])
    .fail))
    (.test (v0 == (8 : Int))
    (let r4 : Rs := (Rt.res (m_value_Or [U.l [[pI v1, pI v2, pS v3], [pI v4, pI v5, pS v6]]]))
    (.test (ok r4 0)
    (.stop 0 [.i (uI (out r4 0) 0), .i (uI (out r4 0) 1), .s (uS (out r4 0) 2), .b true])
    .fail))
    (.test (v0 == (9 : Int))
    (let r5 : Rs := (Rt.res (m_value_Not [U.i v4, U.i v5, U.s v6]))
    (.test (ok r5 0)
    (.stop 0 [.i (uI (out r5 0) 0), .i (uI (out r5 0) 1), .s (uS (out r5 0) 2), .b true])
    .fail))
    (.test (v0 == (10 : Int))
    (let r6 : Rs := (Rt.res (m_value_Truth [U.b (v4 == (0 : Int))]))
    (.test (ok r6 0)
    (.stop 0 [.i (uI (out r6 0) 0), .i (uI (out r6 0) 1), .s (uS (out r6 0) 2), .b true])
    .fail))
    (let r7 : Rs := (Rt.res (m_expr_compare [U.i v0, U.i v1, U.i v2, U.s v3, U.i v4, U.i v5, U.s v6]))
    (.test (ok r7 0)
    (.stop 0 [.i (uI (out r7 0) 0), .i (uI (out r7 0) 1), .s (uS (out r7 0) 2), .b true])
    .fail)))))))))
  | _ => .fail
set_option maxRecDepth 100000 in
theorem q_expr_do (v0 : Int) (v1 : Int) (v2 : Int) (v3 : ByteArray) (v4 : Int) (v5 : Int) (v6 : ByteArray) : callK br Tryz.prog X127 M_expr_do L_expr_do (lsT []) 60 95 (encs [.i v0, .i v1, .i v2, .s v3, .i v4, .i v5, .s v6] 0 S_expr_do.ap) (encH [.i v0, .i v1, .i v2, .s v3, .i v4, .i v5, .s v6] (ws S_expr_do.ap) S_expr_do.ah) (fun y => fixR Tryz.prog S_expr_do.plan S_expr_do.ah.length y) =
    (m_expr_do [.i v0, .i v1, .i v2, .s v3, .i v4, .i v5, .s v6]).go br (fun _ => none) S_expr_do.fin := by
  rw [← callF_eq]; kernel_rfl
theorem e_expr_do : EOK Tryz.prog 95 (gF S_expr_do m_expr_do) :=
  eokTold mixed named x127 (loopsOK_list rids noneIn) 60 S_expr_do m_expr_do (by
    intro us v h; unfold m_expr_do at h; split at h
    · rename_i v0 v1 v2 v3 v4 v5 v6; exact q_expr_do v0 v1 v2 v3 v4 v5 v6
    · cases h) false
noncomputable abbrev X128 : Ext := extT [(95, (gF S_expr_do m_expr_do))] X127
theorem x128 : XOK Tryz.prog X128 := xok1 x127 e_expr_do

def L_expr_Eval : FuncId → Nat → Option (List Nat) := liveT [(66, 6, [4, 6, 23, 24, 25] ++ [1000113000006]), (66, 1000006, [4, 6]), (66, 2000006, [4, 5])]
def M_expr_Eval : FuncId → Bool := fun _ => false
noncomputable def rd_expr_Eval_66_6 : List U → Rt
  | [.l v0, .i v1, .i v2, .i v3, .i v4, .s v5, .b v6, .l v7, .l v8] =>
    (.test (decide (v2 < v1))
    (.test (inR v2 (ln v0))
    (let r0 : Rs := (Rt.res (m_expr_takes [U.i (cI (el v0 v2) 0)]))
    (.test (ok r0 0)
    (.test (decide (uI (out r0 0) 0 > (0 : Int)))
    (.test (ln v8 == (0 : Int))
    (.test (decide (uI (out r0 0) 0 > (1 : Int)))
    (.test (ln v8 == (0 : Int))
    (.stop 0 [.i ((30 : Int)), .i ((0 : Int)), .i ((0 : Int)), .s ({ data := #[] })])
    (.test (inR (w64 (ln v8 - (1 : Int))) (ln v8))
    (.test (decide (Int.toNat (w64 (ln v8 - (1 : Int))) < List.length v8))
    (.test (decide ((0 : Int) ≤ (0 : Int) ∧ (0 : Int) ≤ w64 (ln v8 - (1 : Int)) ∧ w64 (ln v8 - (1 : Int)) ≤ ln v8))
    (.stop 0 [.i ((30 : Int)), .i ((0 : Int)), .i ((0 : Int)), .s ({ data := #[] })])
    .fail)
    .fail)
    .fail))
    (.stop 0 [.i ((30 : Int)), .i ((0 : Int)), .i ((0 : Int)), .s ({ data := #[] })]))
    (.test (inR (w64 (ln v8 - (1 : Int))) (ln v8))
    (.test (decide (Int.toNat (w64 (ln v8 - (1 : Int))) < List.length v8))
    (.test (decide ((0 : Int) ≤ (0 : Int) ∧ (0 : Int) ≤ w64 (ln v8 - (1 : Int)) ∧ w64 (ln v8 - (1 : Int)) ≤ ln v8))
    (.test (decide (uI (out r0 0) 0 > (1 : Int)))
    (.test (decide (0 + (Int.toNat (w64 (ln v8 - (1 : Int))) - 0) ≤ List.length v8))
    (.test ((↑(Int.toNat (w64 (ln v8 - (1 : Int))) - 0) : Int) == (0 : Int))
    (.stop 0 [.i ((30 : Int)), .i ((0 : Int)), .i ((0 : Int)), .s ({ data := #[] })])
    (.test (decide (0 + (Int.toNat (w64 (ln v8 - (1 : Int))) - 0) ≤ List.length v8))
    (.test (decide ((0 : Int) ≤ w64 ((↑(Int.toNat (w64 (ln v8 - (1 : Int))) - 0) : Int) - (1 : Int)) ∧ w64 ((↑(Int.toNat (w64 (ln v8 - (1 : Int))) - 0) : Int) - (1 : Int)) < (↑(Int.toNat (w64 (ln v8 - (1 : Int))) - 0) : Int) ∧ 0 + Int.toNat (w64 ((↑(Int.toNat (w64 (ln v8 - (1 : Int))) - 0) : Int) - (1 : Int))) < List.length v8))
    (.test (decide (0 + Int.toNat (w64 ((↑(Int.toNat (w64 (ln v8 - (1 : Int))) - 0) : Int) - (1 : Int))) < List.length v8))
    (.test (decide (0 + (Int.toNat (w64 (ln v8 - (1 : Int))) - 0) ≤ List.length v8))
    (.test (decide ((0 : Int) ≤ (0 : Int) ∧ (0 : Int) ≤ w64 ((↑(Int.toNat (w64 (ln v8 - (1 : Int))) - 0) : Int) - (1 : Int)) ∧ w64 ((↑(Int.toNat (w64 (ln v8 - (1 : Int))) - 0) : Int) - (1 : Int)) ≤ (↑(Int.toNat (w64 (ln v8 - (1 : Int))) - 0) : Int)))
    (.test (!v6)
    (.stop 0 [.i ((30 : Int)), .i ((0 : Int)), .i ((0 : Int)), .s ({ data := #[] })])
    (.test (decide (uI (out r0 0) 0 < (0 : Int)))
    (.stop 0 [.i ((30 : Int)), .i ((0 : Int)), .i ((0 : Int)), .s ({ data := #[] })])
    (.test (cI (el v0 v2) 0 == (0 : Int))
    (.test (decide (cI (el v0 v2) 1 < (0 : Int)))
    (.stop 0 [.i ((30 : Int)), .i ((0 : Int)), .i ((0 : Int)), .s ({ data := #[] })])
    (.test (decide (cI (el v0 v2) 1 ≥ ln v7))
    (.stop 0 [.i ((30 : Int)), .i ((0 : Int)), .i ((0 : Int)), .s ({ data := #[] })])
    (.test (inR (cI (el v0 v2) 1) (ln v7))
    (.test (decide (0 + (Int.toNat (w64 ((↑(Int.toNat (w64 (ln v8 - (1 : Int))) - 0) : Int) - (1 : Int))) - 0) ≤ List.length v8))
    (.test (decide ((List.length (List.take (Int.toNat (w64 ((↑(Int.toNat (w64 (ln v8 - (1 : Int))) - 0) : Int) - (1 : Int))) - 0) v8) + 1) * 32 ≤ 140737488355328))
    (.next [.l v0, .i v1, .i (w64 (v2 + (1 : Int))), .i v3, .i v4, .s v5, .b v6, .l v7, .l (List.take (Int.toNat (w64 ((↑(Int.toNat (w64 (ln v8 - (1 : Int))) - 0) : Int) - (1 : Int))) - 0) v8 ++ [[pI (cI (el v7 (cI (el v0 v2) 1)) 0), pI (cI (el v7 (cI (el v0 v2) 1)) 1), pS (cS (el v7 (cI (el v0 v2) 1)) 2)]])])
    .fail)
    .fail)
    .fail)))
    (.test (cI (el v0 v2) 0 == (1 : Int))
    (let r1 : Rs := (Rt.res (m_value_May [U.i (cI (el v0 v2) 2), U.i (cI (el v0 v2) 3), U.s (cS (el v0 v2) 4)]))
    (.test (ok r1 0)
    (.test (!uB (out r1 0) 0)
    (.stop 0 [.i ((30 : Int)), .i ((0 : Int)), .i ((0 : Int)), .s ({ data := #[] })])
    (.test (decide (0 + (Int.toNat (w64 ((↑(Int.toNat (w64 (ln v8 - (1 : Int))) - 0) : Int) - (1 : Int))) - 0) ≤ List.length v8))
    (.test (decide ((List.length (List.take (Int.toNat (w64 ((↑(Int.toNat (w64 (ln v8 - (1 : Int))) - 0) : Int) - (1 : Int))) - 0) v8) + 1) * 32 ≤ 140737488355328))
    (.next [.l v0, .i v1, .i (w64 (v2 + (1 : Int))), .i v3, .i v4, .s v5, .b v6, .l v7, .l (List.take (Int.toNat (w64 ((↑(Int.toNat (w64 (ln v8 - (1 : Int))) - 0) : Int) - (1 : Int))) - 0) v8 ++ [[pI (cI (el v0 v2) 2), pI (cI (el v0 v2) 3), pS (cS (el v0 v2) 4)]])])
    .fail)
    .fail))
    .fail))
    (.test (decide ((0 : Int) ≤ w64 ((2 : Int) - uI (out r0 0) 0) ∧ w64 ((2 : Int) - uI (out r0 0) 0) ≤ (2 : Int) ∧ (2 : Int) ≤ (2 : Int)))
    (.test (decide (Int.toNat (w64 ((2 : Int) - uI (out r0 0) 0)) + (2 - Int.toNat (w64 ((2 : Int) - uI (out r0 0) 0))) ≤ 2))
    (let r2 : Rs := (Rt.res (m_expr_leaves [U.i (cI (el v0 v2) 0), U.l (List.take (2 - Int.toNat (w64 ((2 : Int) - uI (out r0 0) 0))) (List.drop (Int.toNat (w64 ((2 : Int) - uI (out r0 0) 0))) [[pI (cI (List.getD v8 (0 + Int.toNat (w64 ((↑(Int.toNat (w64 (ln v8 - (1 : Int))) - 0) : Int) - (1 : Int)))) []) 0)], [pI (cI (el v8 (w64 (ln v8 - (1 : Int)))) 0)]]))]))
    (.test (ok r2 0)
    (.test (!uB (out r2 0) 1)
    (.stop 0 [.i ((30 : Int)), .i ((0 : Int)), .i ((0 : Int)), .s ({ data := #[] })])
    (let r3 : Rs := (Rt.res (m_expr_do [U.i (cI (el v0 v2) 0), U.i (cI (List.getD v8 (0 + Int.toNat (w64 ((↑(Int.toNat (w64 (ln v8 - (1 : Int))) - 0) : Int) - (1 : Int)))) []) 0), U.i (cI (List.getD v8 (0 + Int.toNat (w64 ((↑(Int.toNat (w64 (ln v8 - (1 : Int))) - 0) : Int) - (1 : Int)))) []) 1), U.s (cS (List.getD v8 (0 + Int.toNat (w64 ((↑(Int.toNat (w64 (ln v8 - (1 : Int))) - 0) : Int) - (1 : Int)))) []) 2), U.i (cI (el v8 (w64 (ln v8 - (1 : Int)))) 0), U.i (cI (el v8 (w64 (ln v8 - (1 : Int)))) 1), U.s (cS (el v8 (w64 (ln v8 - (1 : Int)))) 2)]))
    (.test (ok r3 0)
    (.test (!uB (out r3 0) 3)
    (.stop 0 [.i ((31 : Int)), .i ((0 : Int)), .i ((0 : Int)), .s ({ data := #[] })])
    (.test (decide (0 + (Int.toNat (w64 ((↑(Int.toNat (w64 (ln v8 - (1 : Int))) - 0) : Int) - (1 : Int))) - 0) ≤ List.length v8))
    (.test (decide ((List.length (List.take (Int.toNat (w64 ((↑(Int.toNat (w64 (ln v8 - (1 : Int))) - 0) : Int) - (1 : Int))) - 0) v8) + 1) * 32 ≤ 140737488355328))
    (.next [.l v0, .i v1, .i (w64 (v2 + (1 : Int))), .i v3, .i v4, .s v5, .b v6, .l v7, .l (List.take (Int.toNat (w64 ((↑(Int.toNat (w64 (ln v8 - (1 : Int))) - 0) : Int) - (1 : Int))) - 0) v8 ++ [[pI (uI (out r3 0) 0), pI (uI (out r3 0) 1), pS (uS (out r3 0) 2)]])])
    .fail)
    .fail))
    .fail)))
    .fail))
    .fail)
    .fail)))))
    .fail)
    .fail)
    .fail)
    .fail)
    .fail))
    .fail)
    (.test (!v6)
    (.stop 0 [.i ((30 : Int)), .i ((0 : Int)), .i ((0 : Int)), .s ({ data := #[] })])
    (.test (decide (uI (out r0 0) 0 < (0 : Int)))
    (.stop 0 [.i ((30 : Int)), .i ((0 : Int)), .i ((0 : Int)), .s ({ data := #[] })])
    (.test (cI (el v0 v2) 0 == (0 : Int))
    (.test (decide (cI (el v0 v2) 1 < (0 : Int)))
    (.stop 0 [.i ((30 : Int)), .i ((0 : Int)), .i ((0 : Int)), .s ({ data := #[] })])
    (.test (decide (cI (el v0 v2) 1 ≥ ln v7))
    (.stop 0 [.i ((30 : Int)), .i ((0 : Int)), .i ((0 : Int)), .s ({ data := #[] })])
    (.test (inR (cI (el v0 v2) 1) (ln v7))
    (.test (decide (0 + (Int.toNat (w64 (ln v8 - (1 : Int))) - 0) ≤ List.length v8))
    (.test (decide ((List.length (List.take (Int.toNat (w64 (ln v8 - (1 : Int))) - 0) v8) + 1) * 32 ≤ 140737488355328))
    (.next [.l v0, .i v1, .i (w64 (v2 + (1 : Int))), .i v3, .i v4, .s v5, .b v6, .l v7, .l (List.take (Int.toNat (w64 (ln v8 - (1 : Int))) - 0) v8 ++ [[pI (cI (el v7 (cI (el v0 v2) 1)) 0), pI (cI (el v7 (cI (el v0 v2) 1)) 1), pS (cS (el v7 (cI (el v0 v2) 1)) 2)]])])
    .fail)
    .fail)
    .fail)))
    (.test (cI (el v0 v2) 0 == (1 : Int))
    (let r4 : Rs := (Rt.res (m_value_May [U.i (cI (el v0 v2) 2), U.i (cI (el v0 v2) 3), U.s (cS (el v0 v2) 4)]))
    (.test (ok r4 0)
    (.test (!uB (out r4 0) 0)
    (.stop 0 [.i ((30 : Int)), .i ((0 : Int)), .i ((0 : Int)), .s ({ data := #[] })])
    (.test (decide (0 + (Int.toNat (w64 (ln v8 - (1 : Int))) - 0) ≤ List.length v8))
    (.test (decide ((List.length (List.take (Int.toNat (w64 (ln v8 - (1 : Int))) - 0) v8) + 1) * 32 ≤ 140737488355328))
    (.next [.l v0, .i v1, .i (w64 (v2 + (1 : Int))), .i v3, .i v4, .s v5, .b v6, .l v7, .l (List.take (Int.toNat (w64 (ln v8 - (1 : Int))) - 0) v8 ++ [[pI (cI (el v0 v2) 2), pI (cI (el v0 v2) 3), pS (cS (el v0 v2) 4)]])])
    .fail)
    .fail))
    .fail))
    (.test (decide ((0 : Int) ≤ w64 ((2 : Int) - uI (out r0 0) 0) ∧ w64 ((2 : Int) - uI (out r0 0) 0) ≤ (2 : Int) ∧ (2 : Int) ≤ (2 : Int)))
    (.test (decide (Int.toNat (w64 ((2 : Int) - uI (out r0 0) 0)) + (2 - Int.toNat (w64 ((2 : Int) - uI (out r0 0) 0))) ≤ 2))
    (let r5 : Rs := (Rt.res (m_expr_leaves [U.i (cI (el v0 v2) 0), U.l (List.take (2 - Int.toNat (w64 ((2 : Int) - uI (out r0 0) 0))) (List.drop (Int.toNat (w64 ((2 : Int) - uI (out r0 0) 0))) [[pI (0 : Int)], [pI (cI (el v8 (w64 (ln v8 - (1 : Int)))) 0)]]))]))
    (.test (ok r5 0)
    (.test (!uB (out r5 0) 1)
    (.stop 0 [.i ((30 : Int)), .i ((0 : Int)), .i ((0 : Int)), .s ({ data := #[] })])
    (let r6 : Rs := (Rt.res (m_expr_do [U.i (cI (el v0 v2) 0), U.i (0 : Int), U.i (0 : Int), U.s { data := #[] }, U.i (cI (el v8 (w64 (ln v8 - (1 : Int)))) 0), U.i (cI (el v8 (w64 (ln v8 - (1 : Int)))) 1), U.s (cS (el v8 (w64 (ln v8 - (1 : Int)))) 2)]))
    (.test (ok r6 0)
    (.test (!uB (out r6 0) 3)
    (.stop 0 [.i ((31 : Int)), .i ((0 : Int)), .i ((0 : Int)), .s ({ data := #[] })])
    (.test (decide (0 + (Int.toNat (w64 (ln v8 - (1 : Int))) - 0) ≤ List.length v8))
    (.test (decide ((List.length (List.take (Int.toNat (w64 (ln v8 - (1 : Int))) - 0) v8) + 1) * 32 ≤ 140737488355328))
    (.next [.l v0, .i v1, .i (w64 (v2 + (1 : Int))), .i v3, .i v4, .s v5, .b v6, .l v7, .l (List.take (Int.toNat (w64 (ln v8 - (1 : Int))) - 0) v8 ++ [[pI (uI (out r6 0) 0), pI (uI (out r6 0) 1), pS (uS (out r6 0) 2)]])])
    .fail)
    .fail))
    .fail)))
    .fail))
    .fail)
    .fail))))))
    .fail)
    .fail)
    .fail))
    (.test (decide (uI (out r0 0) 0 > (1 : Int)))
    (.test (ln v8 == (0 : Int))
    (.stop 0 [.i ((30 : Int)), .i ((0 : Int)), .i ((0 : Int)), .s ({ data := #[] })])
    (.test (inR (w64 (ln v8 - (1 : Int))) (ln v8))
    (.test (decide (Int.toNat (w64 (ln v8 - (1 : Int))) < List.length v8))
    (.test (decide ((0 : Int) ≤ (0 : Int) ∧ (0 : Int) ≤ w64 (ln v8 - (1 : Int)) ∧ w64 (ln v8 - (1 : Int)) ≤ ln v8))
    (.test (!v6)
    (.stop 0 [.i ((30 : Int)), .i ((0 : Int)), .i ((0 : Int)), .s ({ data := #[] })])
    (.test (decide (uI (out r0 0) 0 < (0 : Int)))
    (.stop 0 [.i ((30 : Int)), .i ((0 : Int)), .i ((0 : Int)), .s ({ data := #[] })])
    (.test (cI (el v0 v2) 0 == (0 : Int))
    (.test (decide (cI (el v0 v2) 1 < (0 : Int)))
    (.stop 0 [.i ((30 : Int)), .i ((0 : Int)), .i ((0 : Int)), .s ({ data := #[] })])
    (.test (decide (cI (el v0 v2) 1 ≥ ln v7))
    (.stop 0 [.i ((30 : Int)), .i ((0 : Int)), .i ((0 : Int)), .s ({ data := #[] })])
    (.test (inR (cI (el v0 v2) 1) (ln v7))
    (.test (decide (0 + (Int.toNat (w64 (ln v8 - (1 : Int))) - 0) ≤ List.length v8))
    (.test (decide ((List.length (List.take (Int.toNat (w64 (ln v8 - (1 : Int))) - 0) v8) + 1) * 32 ≤ 140737488355328))
    (.next [.l v0, .i v1, .i (w64 (v2 + (1 : Int))), .i v3, .i v4, .s v5, .b v6, .l v7, .l (List.take (Int.toNat (w64 (ln v8 - (1 : Int))) - 0) v8 ++ [[pI (cI (el v7 (cI (el v0 v2) 1)) 0), pI (cI (el v7 (cI (el v0 v2) 1)) 1), pS (cS (el v7 (cI (el v0 v2) 1)) 2)]])])
    .fail)
    .fail)
    .fail)))
    (.test (cI (el v0 v2) 0 == (1 : Int))
    (let r7 : Rs := (Rt.res (m_value_May [U.i (cI (el v0 v2) 2), U.i (cI (el v0 v2) 3), U.s (cS (el v0 v2) 4)]))
    (.test (ok r7 0)
    (.test (!uB (out r7 0) 0)
    (.stop 0 [.i ((30 : Int)), .i ((0 : Int)), .i ((0 : Int)), .s ({ data := #[] })])
    (.test (decide (0 + (Int.toNat (w64 (ln v8 - (1 : Int))) - 0) ≤ List.length v8))
    (.test (decide ((List.length (List.take (Int.toNat (w64 (ln v8 - (1 : Int))) - 0) v8) + 1) * 32 ≤ 140737488355328))
    (.next [.l v0, .i v1, .i (w64 (v2 + (1 : Int))), .i v3, .i v4, .s v5, .b v6, .l v7, .l (List.take (Int.toNat (w64 (ln v8 - (1 : Int))) - 0) v8 ++ [[pI (cI (el v0 v2) 2), pI (cI (el v0 v2) 3), pS (cS (el v0 v2) 4)]])])
    .fail)
    .fail))
    .fail))
    (.test (decide ((0 : Int) ≤ w64 ((2 : Int) - uI (out r0 0) 0) ∧ w64 ((2 : Int) - uI (out r0 0) 0) ≤ (2 : Int) ∧ (2 : Int) ≤ (2 : Int)))
    (.test (decide (Int.toNat (w64 ((2 : Int) - uI (out r0 0) 0)) + (2 - Int.toNat (w64 ((2 : Int) - uI (out r0 0) 0))) ≤ 2))
    (let r8 : Rs := (Rt.res (m_expr_leaves [U.i (cI (el v0 v2) 0), U.l (List.take (2 - Int.toNat (w64 ((2 : Int) - uI (out r0 0) 0))) (List.drop (Int.toNat (w64 ((2 : Int) - uI (out r0 0) 0))) [[pI (cI (el v8 (w64 (ln v8 - (1 : Int)))) 0)], [pI (0 : Int)]]))]))
    (.test (ok r8 0)
    (.test (!uB (out r8 0) 1)
    (.stop 0 [.i ((30 : Int)), .i ((0 : Int)), .i ((0 : Int)), .s ({ data := #[] })])
    (let r9 : Rs := (Rt.res (m_expr_do [U.i (cI (el v0 v2) 0), U.i (cI (el v8 (w64 (ln v8 - (1 : Int)))) 0), U.i (cI (el v8 (w64 (ln v8 - (1 : Int)))) 1), U.s (cS (el v8 (w64 (ln v8 - (1 : Int)))) 2), U.i (0 : Int), U.i (0 : Int), U.s { data := #[] }]))
    (.test (ok r9 0)
    (.test (!uB (out r9 0) 3)
    (.stop 0 [.i ((31 : Int)), .i ((0 : Int)), .i ((0 : Int)), .s ({ data := #[] })])
    (.test (decide (0 + (Int.toNat (w64 (ln v8 - (1 : Int))) - 0) ≤ List.length v8))
    (.test (decide ((List.length (List.take (Int.toNat (w64 (ln v8 - (1 : Int))) - 0) v8) + 1) * 32 ≤ 140737488355328))
    (.next [.l v0, .i v1, .i (w64 (v2 + (1 : Int))), .i v3, .i v4, .s v5, .b v6, .l v7, .l (List.take (Int.toNat (w64 (ln v8 - (1 : Int))) - 0) v8 ++ [[pI (uI (out r9 0) 0), pI (uI (out r9 0) 1), pS (uS (out r9 0) 2)]])])
    .fail)
    .fail))
    .fail)))
    .fail))
    .fail)
    .fail)))))
    .fail)
    .fail)
    .fail))
    (.test (!v6)
    (.stop 0 [.i ((30 : Int)), .i ((0 : Int)), .i ((0 : Int)), .s ({ data := #[] })])
    (.test (decide (uI (out r0 0) 0 < (0 : Int)))
    (.stop 0 [.i ((30 : Int)), .i ((0 : Int)), .i ((0 : Int)), .s ({ data := #[] })])
    (.test (cI (el v0 v2) 0 == (0 : Int))
    (.test (decide (cI (el v0 v2) 1 < (0 : Int)))
    (.stop 0 [.i ((30 : Int)), .i ((0 : Int)), .i ((0 : Int)), .s ({ data := #[] })])
    (.test (decide (cI (el v0 v2) 1 ≥ ln v7))
    (.stop 0 [.i ((30 : Int)), .i ((0 : Int)), .i ((0 : Int)), .s ({ data := #[] })])
    (.test (inR (cI (el v0 v2) 1) (ln v7))
    (.test (decide ((List.length v8 + 1) * 32 ≤ 140737488355328))
    (.next [.l v0, .i v1, .i (w64 (v2 + (1 : Int))), .i v3, .i v4, .s v5, .b v6, .l v7, .l (v8 ++ [[pI (cI (el v7 (cI (el v0 v2) 1)) 0), pI (cI (el v7 (cI (el v0 v2) 1)) 1), pS (cS (el v7 (cI (el v0 v2) 1)) 2)]])])
    .fail)
    .fail)))
    (.test (cI (el v0 v2) 0 == (1 : Int))
    (let r10 : Rs := (Rt.res (m_value_May [U.i (cI (el v0 v2) 2), U.i (cI (el v0 v2) 3), U.s (cS (el v0 v2) 4)]))
    (.test (ok r10 0)
    (.test (!uB (out r10 0) 0)
    (.stop 0 [.i ((30 : Int)), .i ((0 : Int)), .i ((0 : Int)), .s ({ data := #[] })])
    (.test (decide ((List.length v8 + 1) * 32 ≤ 140737488355328))
    (.next [.l v0, .i v1, .i (w64 (v2 + (1 : Int))), .i v3, .i v4, .s v5, .b v6, .l v7, .l (v8 ++ [[pI (cI (el v0 v2) 2), pI (cI (el v0 v2) 3), pS (cS (el v0 v2) 4)]])])
    .fail))
    .fail))
    (.test (decide ((0 : Int) ≤ w64 ((2 : Int) - uI (out r0 0) 0) ∧ w64 ((2 : Int) - uI (out r0 0) 0) ≤ (2 : Int) ∧ (2 : Int) ≤ (2 : Int)))
    (.test (decide (Int.toNat (w64 ((2 : Int) - uI (out r0 0) 0)) + (2 - Int.toNat (w64 ((2 : Int) - uI (out r0 0) 0))) ≤ 2))
    (let r11 : Rs := (Rt.res (m_expr_leaves [U.i (cI (el v0 v2) 0), U.l (List.take (2 - Int.toNat (w64 ((2 : Int) - uI (out r0 0) 0))) (List.drop (Int.toNat (w64 ((2 : Int) - uI (out r0 0) 0))) [[pI (0 : Int)], [pI (0 : Int)]]))]))
    (.test (ok r11 0)
    (.test (!uB (out r11 0) 1)
    (.stop 0 [.i ((30 : Int)), .i ((0 : Int)), .i ((0 : Int)), .s ({ data := #[] })])
    (let r12 : Rs := (Rt.res (m_expr_do [U.i (cI (el v0 v2) 0), U.i (0 : Int), U.i (0 : Int), U.s { data := #[] }, U.i (0 : Int), U.i (0 : Int), U.s { data := #[] }]))
    (.test (ok r12 0)
    (.test (!uB (out r12 0) 3)
    (.stop 0 [.i ((31 : Int)), .i ((0 : Int)), .i ((0 : Int)), .s ({ data := #[] })])
    (.test (decide ((List.length v8 + 1) * 32 ≤ 140737488355328))
    (.next [.l v0, .i v1, .i (w64 (v2 + (1 : Int))), .i v3, .i v4, .s v5, .b v6, .l v7, .l (v8 ++ [[pI (uI (out r12 0) 0), pI (uI (out r12 0) 1), pS (uS (out r12 0) 2)]])])
    .fail))
    .fail)))
    .fail))
    .fail)
    .fail)))))))
    .fail))
    .fail)
    (.stop 1 [.i v3, .i v4, .s v5, .b v6, .l v7, .l v8]))
  | _ => .fail
def sp_expr_Eval_66_6 : LSp := ⟨47, ⟨[(4, .one (.ptr 0 0)), (6, .one (.ptr 1 0)), (23, .one (.l 58)), (24, .one (.i .i64)), (25, .one (.i .i64))], [.box 56 [.one (.i .i64), .one (.i .i64), .one (.s)], .box 111 [.one (.all 2), .one (.b), .one (.l 56)], .arr 56 true]⟩, [(.ret, ⟨[(4, .one (.ptr 0 0)), (5, .one (.i .i64))], [.box 56 [.one (.i .i64), .one (.i .i64), .one (.s)]]⟩), (.exit 0, ⟨[(4, .one (.ptr 0 0)), (6, .one (.ptr 1 0))], [.box 56 [.one (.i .i64), .one (.i .i64), .one (.s)], .box 111 [.one (.all 2), .one (.b), .one (.l 56)], .arr 56 true]⟩)]⟩
set_option maxRecDepth 100000 in
theorem rq_expr_Eval_66_6 (v0 : List (List PV)) (v1 : Int) (v2 : Int) (v3 : Int) (v4 : Int) (v5 : ByteArray) (v6 : Bool) (v7 : List (List PV)) (v8 : List (List PV)) : runK br Tryz.prog (callK br Tryz.prog X128 M_expr_Eval L_expr_Eval (lsT []) 40) M_expr_Eval (lsT [] 66 0) 40 0 (L_expr_Eval 66) (bodyOf Tryz.prog 66 6) (sp_expr_Eval_66_6.s.ts sp_expr_Eval_66_6.n [.l v0, .i v1, .i v2, .i v3, .i v4, .s v5, .b v6, .l v7, .l v8]) (sp_expr_Eval_66_6.s.h [.l v0, .i v1, .i v2, .i v3, .i v4, .s v5, .b v6, .l v7, .l v8]) (idc Tryz.prog 0 (L_expr_Eval 66) 6) =
    (rd_expr_Eval_66_6 [.l v0, .i v1, .i v2, .i v3, .i v4, .s v5, .b v6, .l v7, .l v8]).go br (fun us' => some (.normal, sp_expr_Eval_66_6.s.ts sp_expr_Eval_66_6.n us', sp_expr_Eval_66_6.s.h us')) sp_expr_Eval_66_6.fin := by
  rw [← callF_eq, ← runF_eq]; kernel_rfl
theorem lo_expr_Eval_66_6 {R : Type} : LoopTells Tryz.prog X128 M_expr_Eval L_expr_Eval 0 (L_expr_Eval 66) (bodyOf Tryz.prog 66 6) (gL (R := R) sp_expr_Eval_66_6 rd_expr_Eval_66_6 br) :=
  loopTold (callK_ev (loopsOK_list rids noneIn) 40) (lsokIn (loopsOK_list rids noneIn) 66 0 6) (by kernel_rfl) sp_expr_Eval_66_6 rd_expr_Eval_66_6 rfl (by kernel_rfl) (by
    intro us v h; unfold rd_expr_Eval_66_6 at h; split at h
    · rename_i v0 v1 v2 v3 v4 v5 v6 v7 v8; exact rq_expr_Eval_66_6 v0 v1 v2 v3 v4 v5 v6 v7 v8
    · cases h)
noncomputable abbrev ll_expr_Eval_66_6 {R : Type} : List (Nat × Nat × Nat × Smy R) := (66, 0, 6, gL sp_expr_Eval_66_6 rd_expr_Eval_66_6 br) :: []
theorem lk_expr_Eval_66_6 {R : Type} : ∀ e ∈ ll_expr_Eval_66_6 (R := R), LoopTells Tryz.prog X128 M_expr_Eval L_expr_Eval e.2.1 (L_expr_Eval e.1) (bodyOf Tryz.prog e.1 e.2.2.1) e.2.2.2 := List.forall_mem_cons.2 ⟨lo_expr_Eval_66_6, noneIn⟩
def S_expr_Eval : FSp := ⟨[.one (.l 58), .one (.l 56)], [], [], [([.agg [.i .i64, .i .i64, .s], .one (.i .i64)], [])]⟩
noncomputable def m_expr_Eval : List U → Rt
  | [.l v0, .l v1] =>
    (.test (decide (ln v0 > (100 : Int)))
    (.stop 0 [.i ((0 : Int)), .i ((0 : Int)), .s ({ data := #[] }), .i ((1 : Int))])
    (let r0 : Rs := (lres rd_expr_Eval_66_6 [U.l v0, U.i (ln v0), U.i (0 : Int), U.i (0 : Int), U.i (0 : Int), U.s { data := #[] }, U.b true, U.l v1, U.l []])
    (.test (ok r0 0)
    (.stop 0 [.i (uI (out r0 0) 1), .i (uI (out r0 0) 2), .s (uS (out r0 0) 3), .i (uI (out r0 0) 0)])
    (.test (ok r0 1)
    (.test (!uB (out r0 1) 3)
    (.stop 0 [.i ((0 : Int)), .i ((0 : Int)), .s ({ data := #[] }), .i ((30 : Int))])
    (.test (ln (uL (out r0 1) 5) != (1 : Int))
    (.stop 0 [.i ((0 : Int)), .i ((0 : Int)), .s ({ data := #[] }), .i ((30 : Int))])
    (.test (inR (0 : Int) (ln (uL (out r0 1) 5)))
    (.test (decide (0 < List.length (uL (out r0 1) 5)))
    (.stop 0 [.i (cI (List.getD (uL (out r0 1) 5) 0 []) 0), .i (cI (List.getD (uL (out r0 1) 5) 0 []) 1), .s (cS (List.getD (uL (out r0 1) 5) 0 []) 2), .i ((0 : Int))])
    .fail)
    .fail)))
    .fail))))
  | _ => .fail
set_option maxRecDepth 100000 in
theorem q_expr_Eval (v0 : List (List PV)) (v1 : List (List PV)) : callK br Tryz.prog X128 M_expr_Eval L_expr_Eval (lsT ll_expr_Eval_66_6) 60 66 (encs [.l v0, .l v1] 0 S_expr_Eval.ap) (encH [.l v0, .l v1] (ws S_expr_Eval.ap) S_expr_Eval.ah) (fun y => fixR Tryz.prog S_expr_Eval.plan S_expr_Eval.ah.length y) =
    (m_expr_Eval [.l v0, .l v1]).go br (fun _ => none) S_expr_Eval.fin := by
  rw [← callF_eq]; kernel_rfl
theorem e_expr_Eval : EOK Tryz.prog 66 (gF S_expr_Eval m_expr_Eval) :=
  eokTold mixed named x128 (loopsOK_list rids lk_expr_Eval_66_6) 60 S_expr_Eval m_expr_Eval (by
    intro us v h; unfold m_expr_Eval at h; split at h
    · rename_i v0 v1; exact q_expr_Eval v0 v1
    · cases h) false
noncomputable abbrev X129 : Ext := extT [(66, (gF S_expr_Eval m_expr_Eval))] X128
theorem x129 : XOK Tryz.prog X129 := xok1 x128 e_expr_Eval

def L_expr_True : FuncId → Nat → Option (List Nat) := liveT []
def M_expr_True : FuncId → Bool := fun _ => false
def S_expr_True : FSp := ⟨[.one (.l 58), .one (.l 56)], [], [], [([.one (.b), .one (.i .i64)], [])]⟩
noncomputable def m_expr_True : List U → Rt
  | [.l v0, .l v1] =>
    (.test (ln v0 == (0 : Int))
    (.stop 0 [.b true, .i ((0 : Int))])
    (let r0 : Rs := (Rt.res (m_expr_Eval [U.l v0, U.l v1]))
    (.test (ok r0 0)
    (.test (uI (out r0 0) 3 == (0 : Int))
    (.stop 0 [.b (uI (out r0 0) 0 == (1 : Int) && (uI (out r0 0) 1 == (1 : Int) && (ByteArray.toList (uS (out r0 0) 2) == [] && true))), .i (uI (out r0 0) 3)])
    (.stop 0 [.b false, .i (uI (out r0 0) 3)]))
    .fail)))
  | _ => .fail
set_option maxRecDepth 100000 in
theorem q_expr_True (v0 : List (List PV)) (v1 : List (List PV)) : callK br Tryz.prog X129 M_expr_True L_expr_True (lsT []) 60 42 (encs [.l v0, .l v1] 0 S_expr_True.ap) (encH [.l v0, .l v1] (ws S_expr_True.ap) S_expr_True.ah) (fun y => fixR Tryz.prog S_expr_True.plan S_expr_True.ah.length y) =
    (m_expr_True [.l v0, .l v1]).go br (fun _ => none) S_expr_True.fin := by
  rw [← callF_eq]; kernel_rfl
theorem e_expr_True : EOK Tryz.prog 42 (gF S_expr_True m_expr_True) :=
  eokTold mixed named x129 (loopsOK_list rids noneIn) 60 S_expr_True m_expr_True (by
    intro us v h; unfold m_expr_True at h; split at h
    · rename_i v0 v1; exact q_expr_True v0 v1
    · cases h) false
noncomputable abbrev X130 : Ext := extT [(42, (gF S_expr_True m_expr_True))] X129
theorem x130 : XOK Tryz.prog X130 := xok1 x129 e_expr_True

def L_query_Where : FuncId → Nat → Option (List Nat) := liveT [(11, 5, [2, 109000006, 14, 15, 16]), (11, 1000005, [6]), (11, 2000005, [4, 5])]
def M_query_Where : FuncId → Bool := fun _ => false
noncomputable def rd_query_Where_11_5 : List U → Rt
  | [.l v0, .i v1, .i v2, .s v3, .s v4, .s v5, .i v6, .i v7, .l v8, .l v9, .b v10, .l v11, .l v12] =>
    (.test (decide (v2 < v1))
    (.test (inR v2 (ln v0))
    (let r0 : Rs := (Rt.res (m_expr_True [U.l v8, U.l (cL (el v0 v2) 0)]))
    (.test (ok r0 0)
    (.test (uI (out r0 0) 1 != (0 : Int))
    (.stop 0 [.i (uI (out r0 0) 1)])
    (.test (uB (out r0 0) 0)
    (.test (decide ((0 + List.length (cL (el v0 v2) 0)) * 32 ≤ 140737488355328))
    (.test (decide ((List.length v12 + 1) * 32 ≤ 140737488355328))
    (.next [.l v0, .i v1, .i (w64 (v2 + (1 : Int))), .s v3, .s v4, .s v5, .i v6, .i v7, .l v8, .l v9, .b v10, .l v11, .l (v12 ++ [[PV.lst 56 (cL (el v0 v2) 0), pI (cI (el v0 v2) 1)]])])
    .fail)
    .fail)
    (.next [.l v0, .i v1, .i (w64 (v2 + (1 : Int))), .s v3, .s v4, .s v5, .i v6, .i v7, .l v8, .l v9, .b v10, .l v11, .l v12])))
    .fail))
    .fail)
    (.stop 1 [.l v12]))
  | _ => .fail
def sp_query_Where_11_5 : LSp := ⟨43, ⟨[(2, .one (.ptr 0 0)), (6, .one (.all 1)), (14, .one (.l 54)), (15, .one (.i .i64)), (16, .one (.i .i64))], [.box 28 [.one (.s), .one (.s), .one (.s), .one (.i .i64), .one (.i .i64), .one (.l 58), .one (.l 3), .one (.b), .one (.l 165)], .arr 54 true]⟩, [(.ret, ⟨[(4, .one (.nils)), (5, .one (.i .i64))], []⟩), (.exit 0, ⟨[(6, .one (.all 0))], [.arr 54 true]⟩)]⟩
set_option maxRecDepth 100000 in
theorem rq_query_Where_11_5 (v0 : List (List PV)) (v1 : Int) (v2 : Int) (v3 : ByteArray) (v4 : ByteArray) (v5 : ByteArray) (v6 : Int) (v7 : Int) (v8 : List (List PV)) (v9 : List (List PV)) (v10 : Bool) (v11 : List (List PV)) (v12 : List (List PV)) : runK br Tryz.prog (callK br Tryz.prog X130 M_query_Where L_query_Where (lsT []) 40) M_query_Where (lsT [] 11 0) 40 0 (L_query_Where 11) (bodyOf Tryz.prog 11 5) (sp_query_Where_11_5.s.ts sp_query_Where_11_5.n [.l v0, .i v1, .i v2, .s v3, .s v4, .s v5, .i v6, .i v7, .l v8, .l v9, .b v10, .l v11, .l v12]) (sp_query_Where_11_5.s.h [.l v0, .i v1, .i v2, .s v3, .s v4, .s v5, .i v6, .i v7, .l v8, .l v9, .b v10, .l v11, .l v12]) (idc Tryz.prog 0 (L_query_Where 11) 5) =
    (rd_query_Where_11_5 [.l v0, .i v1, .i v2, .s v3, .s v4, .s v5, .i v6, .i v7, .l v8, .l v9, .b v10, .l v11, .l v12]).go br (fun us' => some (.normal, sp_query_Where_11_5.s.ts sp_query_Where_11_5.n us', sp_query_Where_11_5.s.h us')) sp_query_Where_11_5.fin := by
  rw [← callF_eq, ← runF_eq]; kernel_rfl
theorem lo_query_Where_11_5 {R : Type} : LoopTells Tryz.prog X130 M_query_Where L_query_Where 0 (L_query_Where 11) (bodyOf Tryz.prog 11 5) (gL (R := R) sp_query_Where_11_5 rd_query_Where_11_5 br) :=
  loopTold (callK_ev (loopsOK_list rids noneIn) 40) (lsokIn (loopsOK_list rids noneIn) 11 0 5) (by kernel_rfl) sp_query_Where_11_5 rd_query_Where_11_5 rfl (by kernel_rfl) (by
    intro us v h; unfold rd_query_Where_11_5 at h; split at h
    · rename_i v0 v1 v2 v3 v4 v5 v6 v7 v8 v9 v10 v11 v12; exact rq_query_Where_11_5 v0 v1 v2 v3 v4 v5 v6 v7 v8 v9 v10 v11 v12
    · cases h)
noncomputable abbrev ll_query_Where_11_5 {R : Type} : List (Nat × Nat × Nat × Smy R) := (11, 0, 5, gL sp_query_Where_11_5 rd_query_Where_11_5 br) :: []
theorem lk_query_Where_11_5 {R : Type} : ∀ e ∈ ll_query_Where_11_5 (R := R), LoopTells Tryz.prog X130 M_query_Where L_query_Where e.2.1 (L_query_Where e.1) (bodyOf Tryz.prog e.1 e.2.2.1) e.2.2.2 := List.forall_mem_cons.2 ⟨lo_query_Where_11_5, noneIn⟩
def S_query_Where : FSp := ⟨[.agg [.s, .s, .s, .i .i64, .i .i64, .l 58, .l 3, .b, .l 165], .one (.l 54)], [], [109000000], [([.one (.all 0), .one (.i .i64)], [.arr 54 true])]⟩
noncomputable def m_query_Where : List U → Rt
  | [.s v0, .s v1, .s v2, .i v3, .i v4, .l v5, .l v6, .b v7, .l v8, .l v9] =>
    (let r0 : Rs := (Rt.res (m_bag_May [U.l v9]))
    (.test (ok r0 0)
    (.test (!uB (out r0 0) 0)
    (.stop 0 [.i ((0 : Int)), .l []])
    (let r1 : Rs := (lres rd_query_Where_11_5 [U.l v9, U.i (ln v9), U.i (0 : Int), U.s v0, U.s v1, U.s v2, U.i v3, U.i v4, U.l v5, U.l v6, U.b v7, U.l v8, U.l []])
    (.test (ok r1 0)
    (.stop 0 [.i (uI (out r1 0) 0), .l []])
    (.test (ok r1 1)
    (.stop 0 [.i ((0 : Int)), .l (uL (out r1 1) 0)])
    .fail))))
    .fail))
  | _ => .fail
set_option maxRecDepth 100000 in
theorem q_query_Where (v0 : ByteArray) (v1 : ByteArray) (v2 : ByteArray) (v3 : Int) (v4 : Int) (v5 : List (List PV)) (v6 : List (List PV)) (v7 : Bool) (v8 : List (List PV)) (v9 : List (List PV)) : callK br Tryz.prog X130 M_query_Where L_query_Where (lsT ll_query_Where_11_5) 60 11 (encs [.s v0, .s v1, .s v2, .i v3, .i v4, .l v5, .l v6, .b v7, .l v8, .l v9] 0 S_query_Where.ap) (encH [.s v0, .s v1, .s v2, .i v3, .i v4, .l v5, .l v6, .b v7, .l v8, .l v9] (ws S_query_Where.ap) S_query_Where.ah) (fun y => fixR Tryz.prog S_query_Where.plan S_query_Where.ah.length y) =
    (m_query_Where [.s v0, .s v1, .s v2, .i v3, .i v4, .l v5, .l v6, .b v7, .l v8, .l v9]).go br (fun _ => none) S_query_Where.fin := by
  rw [← callF_eq]; kernel_rfl
theorem e_query_Where : EOK Tryz.prog 11 (gF S_query_Where m_query_Where) :=
  eokTold mixed named x130 (loopsOK_list rids lk_query_Where_11_5) 60 S_query_Where m_query_Where (by
    intro us v h; unfold m_query_Where at h; split at h
    · rename_i v0 v1 v2 v3 v4 v5 v6 v7 v8 v9; exact q_query_Where v0 v1 v2 v3 v4 v5 v6 v7 v8 v9
    · cases h) false
noncomputable abbrev X131 : Ext := extT [(11, (gF S_query_Where m_query_Where))] X130
theorem x131 : XOK Tryz.prog X131 := xok1 x130 e_query_Where

def L_row_Pick : FuncId → Nat → Option (List Nat) := liveT [(46, 3, [0, 113000006, 9, 10, 11]), (46, 1000003, [6]), (46, 2000003, [4, 5])]
def M_row_Pick : FuncId → Bool := fun _ => false
noncomputable def rd_row_Pick_46_3 : List U → Rt
  | [.l v0, .l v1, .i v2, .i v3, .l v4] =>
    (.test (decide (v3 < v2))
    (.test (inR v3 (ln v1))
    (.test (decide (cI (el v1 v3) 0 < (0 : Int)))
    (.stop 0 [.b false])
    (.test (decide (cI (el v1 v3) 0 ≥ ln v0))
    (.stop 0 [.b false])
    (.test (inR (cI (el v1 v3) 0) (ln v0))
    (.test (decide ((List.length v4 + 1) * 32 ≤ 140737488355328))
    (.next [.l v0, .l v1, .i v2, .i (w64 (v3 + (1 : Int))), .l (v4 ++ [[pI (cI (el v0 (cI (el v1 v3) 0)) 0), pI (cI (el v0 (cI (el v1 v3) 0)) 1), pS (cS (el v0 (cI (el v1 v3) 0)) 2)]])])
    .fail)
    .fail)))
    .fail)
    (.stop 1 [.l v4]))
  | _ => .fail
def sp_row_Pick_46_3 : LSp := ⟨32, ⟨[(0, .one (.l 56)), (6, .one (.all 0)), (9, .one (.l 3)), (10, .one (.i .i64)), (11, .one (.i .i64))], [.arr 56 true]⟩, [(.ret, ⟨[(4, .one (.nils)), (5, .one (.b))], []⟩), (.exit 0, ⟨[(6, .one (.all 0))], [.arr 56 true]⟩)]⟩
set_option maxRecDepth 100000 in
theorem rq_row_Pick_46_3 (v0 : List (List PV)) (v1 : List (List PV)) (v2 : Int) (v3 : Int) (v4 : List (List PV)) : runK br Tryz.prog (callK br Tryz.prog X131 M_row_Pick L_row_Pick (lsT []) 40) M_row_Pick (lsT [] 46 0) 40 0 (L_row_Pick 46) (bodyOf Tryz.prog 46 3) (sp_row_Pick_46_3.s.ts sp_row_Pick_46_3.n [.l v0, .l v1, .i v2, .i v3, .l v4]) (sp_row_Pick_46_3.s.h [.l v0, .l v1, .i v2, .i v3, .l v4]) (idc Tryz.prog 0 (L_row_Pick 46) 3) =
    (rd_row_Pick_46_3 [.l v0, .l v1, .i v2, .i v3, .l v4]).go br (fun us' => some (.normal, sp_row_Pick_46_3.s.ts sp_row_Pick_46_3.n us', sp_row_Pick_46_3.s.h us')) sp_row_Pick_46_3.fin := by
  rw [← callF_eq, ← runF_eq]; kernel_rfl
theorem lo_row_Pick_46_3 {R : Type} : LoopTells Tryz.prog X131 M_row_Pick L_row_Pick 0 (L_row_Pick 46) (bodyOf Tryz.prog 46 3) (gL (R := R) sp_row_Pick_46_3 rd_row_Pick_46_3 br) :=
  loopTold (callK_ev (loopsOK_list rids noneIn) 40) (lsokIn (loopsOK_list rids noneIn) 46 0 3) (by kernel_rfl) sp_row_Pick_46_3 rd_row_Pick_46_3 rfl (by kernel_rfl) (by
    intro us v h; unfold rd_row_Pick_46_3 at h; split at h
    · rename_i v0 v1 v2 v3 v4; exact rq_row_Pick_46_3 v0 v1 v2 v3 v4
    · cases h)
noncomputable abbrev ll_row_Pick_46_3 {R : Type} : List (Nat × Nat × Nat × Smy R) := (46, 0, 3, gL sp_row_Pick_46_3 rd_row_Pick_46_3 br) :: []
theorem lk_row_Pick_46_3 {R : Type} : ∀ e ∈ ll_row_Pick_46_3 (R := R), LoopTells Tryz.prog X131 M_row_Pick L_row_Pick e.2.1 (L_row_Pick e.1) (bodyOf Tryz.prog e.1 e.2.2.1) e.2.2.2 := List.forall_mem_cons.2 ⟨lo_row_Pick_46_3, noneIn⟩
def S_row_Pick : FSp := ⟨[.one (.l 56), .one (.l 3)], [], [113000000], [([.one (.all 0), .one (.b)], [.arr 56 true])]⟩
noncomputable def m_row_Pick : List U → Rt
  | [.l v0, .l v1] =>
    (let r0 : Rs := (lres rd_row_Pick_46_3 [U.l v0, U.l v1, U.i (ln v1), U.i (0 : Int), U.l []])
    (.test (ok r0 0)
    (.stop 0 [.b (uB (out r0 0) 0), .l []])
    (.test (ok r0 1)
    (.stop 0 [.b true, .l (uL (out r0 1) 0)])
    .fail)))
  | _ => .fail
set_option maxRecDepth 100000 in
theorem q_row_Pick (v0 : List (List PV)) (v1 : List (List PV)) : callK br Tryz.prog X131 M_row_Pick L_row_Pick (lsT ll_row_Pick_46_3) 60 46 (encs [.l v0, .l v1] 0 S_row_Pick.ap) (encH [.l v0, .l v1] (ws S_row_Pick.ap) S_row_Pick.ah) (fun y => fixR Tryz.prog S_row_Pick.plan S_row_Pick.ah.length y) =
    (m_row_Pick [.l v0, .l v1]).go br (fun _ => none) S_row_Pick.fin := by
  rw [← callF_eq]; kernel_rfl
theorem e_row_Pick : EOK Tryz.prog 46 (gF S_row_Pick m_row_Pick) :=
  eokTold mixed named x131 (loopsOK_list rids lk_row_Pick_46_3) 60 S_row_Pick m_row_Pick (by
    intro us v h; unfold m_row_Pick at h; split at h
    · rename_i v0 v1; exact q_row_Pick v0 v1
    · cases h) false
noncomputable abbrev X132 : Ext := extT [(46, (gF S_row_Pick m_row_Pick))] X131
theorem x132 : XOK Tryz.prog X132 := xok1 x131 e_row_Pick

def L_query_Pick : FuncId → Nat → Option (List Nat) := liveT [(14, 5, [2, 109000005, 14, 15, 16]), (14, 1000005, [5]), (14, 2000005, [4])]
def M_query_Pick : FuncId → Bool := fun _ => false
noncomputable def rd_query_Pick_14_5 : List U → Rt
  | [.l v0, .i v1, .i v2, .s v3, .s v4, .s v5, .i v6, .i v7, .l v8, .l v9, .b v10, .l v11, .l v12] =>
    (.test (decide (v2 < v1))
    (.test (inR v2 (ln v0))
    (let r0 : Rs := (Rt.res (m_row_Pick [U.l (cL (el v0 v2) 0), U.l v9]))
    (.test (ok r0 0)
    (.test (uB (out r0 0) 0)
    (.test (decide (ln (uL (out r0 0) 1) ≤ (40 : Int)))
    (.test (decide ((List.length v12 + 1) * 32 ≤ 140737488355328))
    (.next [.l v0, .i v1, .i (w64 (v2 + (1 : Int))), .s v3, .s v4, .s v5, .i v6, .i v7, .l v8, .l v9, .b v10, .l v11, .l (v12 ++ [[PV.lst 56 (uL (out r0 0) 1), pI (cI (el v0 v2) 1)]])])
    .fail)
    (.next [.l v0, .i v1, .i (w64 (v2 + (1 : Int))), .s v3, .s v4, .s v5, .i v6, .i v7, .l v8, .l v9, .b v10, .l v11, .l v12]))
    (.next [.l v0, .i v1, .i (w64 (v2 + (1 : Int))), .s v3, .s v4, .s v5, .i v6, .i v7, .l v8, .l v9, .b v10, .l v11, .l v12]))
    .fail))
    .fail)
    (.stop 0 [.l v12]))
  | _ => .fail
def sp_query_Pick_14_5 : LSp := ⟨48, ⟨[(2, .one (.ptr 0 0)), (5, .one (.all 1)), (14, .one (.l 54)), (15, .one (.i .i64)), (16, .one (.i .i64))], [.box 28 [.one (.s), .one (.s), .one (.s), .one (.i .i64), .one (.i .i64), .one (.l 58), .one (.l 3), .one (.b), .one (.l 165)], .arr 54 true]⟩, [(.exit 0, ⟨[(5, .one (.all 0))], [.arr 54 true]⟩)]⟩
set_option maxRecDepth 100000 in
theorem rq_query_Pick_14_5 (v0 : List (List PV)) (v1 : Int) (v2 : Int) (v3 : ByteArray) (v4 : ByteArray) (v5 : ByteArray) (v6 : Int) (v7 : Int) (v8 : List (List PV)) (v9 : List (List PV)) (v10 : Bool) (v11 : List (List PV)) (v12 : List (List PV)) : runK br Tryz.prog (callK br Tryz.prog X132 M_query_Pick L_query_Pick (lsT []) 40) M_query_Pick (lsT [] 14 0) 40 0 (L_query_Pick 14) (bodyOf Tryz.prog 14 5) (sp_query_Pick_14_5.s.ts sp_query_Pick_14_5.n [.l v0, .i v1, .i v2, .s v3, .s v4, .s v5, .i v6, .i v7, .l v8, .l v9, .b v10, .l v11, .l v12]) (sp_query_Pick_14_5.s.h [.l v0, .i v1, .i v2, .s v3, .s v4, .s v5, .i v6, .i v7, .l v8, .l v9, .b v10, .l v11, .l v12]) (idc Tryz.prog 0 (L_query_Pick 14) 5) =
    (rd_query_Pick_14_5 [.l v0, .i v1, .i v2, .s v3, .s v4, .s v5, .i v6, .i v7, .l v8, .l v9, .b v10, .l v11, .l v12]).go br (fun us' => some (.normal, sp_query_Pick_14_5.s.ts sp_query_Pick_14_5.n us', sp_query_Pick_14_5.s.h us')) sp_query_Pick_14_5.fin := by
  rw [← callF_eq, ← runF_eq]; kernel_rfl
theorem lo_query_Pick_14_5 {R : Type} : LoopTells Tryz.prog X132 M_query_Pick L_query_Pick 0 (L_query_Pick 14) (bodyOf Tryz.prog 14 5) (gL (R := R) sp_query_Pick_14_5 rd_query_Pick_14_5 br) :=
  loopTold (callK_ev (loopsOK_list rids noneIn) 40) (lsokIn (loopsOK_list rids noneIn) 14 0 5) (by kernel_rfl) sp_query_Pick_14_5 rd_query_Pick_14_5 rfl (by kernel_rfl) (by
    intro us v h; unfold rd_query_Pick_14_5 at h; split at h
    · rename_i v0 v1 v2 v3 v4 v5 v6 v7 v8 v9 v10 v11 v12; exact rq_query_Pick_14_5 v0 v1 v2 v3 v4 v5 v6 v7 v8 v9 v10 v11 v12
    · cases h)
noncomputable abbrev ll_query_Pick_14_5 {R : Type} : List (Nat × Nat × Nat × Smy R) := (14, 0, 5, gL sp_query_Pick_14_5 rd_query_Pick_14_5 br) :: []
theorem lk_query_Pick_14_5 {R : Type} : ∀ e ∈ ll_query_Pick_14_5 (R := R), LoopTells Tryz.prog X132 M_query_Pick L_query_Pick e.2.1 (L_query_Pick e.1) (bodyOf Tryz.prog e.1 e.2.2.1) e.2.2.2 := List.forall_mem_cons.2 ⟨lo_query_Pick_14_5, noneIn⟩
def S_query_Pick : FSp := ⟨[.agg [.s, .s, .s, .i .i64, .i .i64, .l 58, .l 3, .b, .l 165], .one (.l 54)], [], [109000000], [([.one (.all 0)], [.arr 54 true])]⟩
noncomputable def m_query_Pick : List U → Rt
  | [.s v0, .s v1, .s v2, .i v3, .i v4, .l v5, .l v6, .b v7, .l v8, .l v9] =>
    (let r0 : Rs := (Rt.res (m_bag_May [U.l v9]))
    (.test (ok r0 0)
    (.test (!uB (out r0 0) 0)
    (.stop 0 [.l []])
    (let r1 : Rs := (lres rd_query_Pick_14_5 [U.l v9, U.i (ln v9), U.i (0 : Int), U.s v0, U.s v1, U.s v2, U.i v3, U.i v4, U.l v5, U.l v6, U.b v7, U.l v8, U.l []])
    (.test (ok r1 0)
    (let r2 : Rs := (Rt.res (m_bag_Sum [U.l (uL (out r1 0) 0)]))
    (.test (ok r2 0)
    (let r3 : Rs := (Rt.res (m_bag_May [U.l (uL (out r2 0) 0)]))
    (.test (ok r3 0)
    (.test (!uB (out r3 0) 0)
    (.stop 0 [.l []])
    (.stop 0 [.l (uL (out r2 0) 0)]))
    .fail))
    .fail))
    .fail)))
    .fail))
  | _ => .fail
set_option maxRecDepth 100000 in
theorem q_query_Pick (v0 : ByteArray) (v1 : ByteArray) (v2 : ByteArray) (v3 : Int) (v4 : Int) (v5 : List (List PV)) (v6 : List (List PV)) (v7 : Bool) (v8 : List (List PV)) (v9 : List (List PV)) : callK br Tryz.prog X132 M_query_Pick L_query_Pick (lsT ll_query_Pick_14_5) 60 14 (encs [.s v0, .s v1, .s v2, .i v3, .i v4, .l v5, .l v6, .b v7, .l v8, .l v9] 0 S_query_Pick.ap) (encH [.s v0, .s v1, .s v2, .i v3, .i v4, .l v5, .l v6, .b v7, .l v8, .l v9] (ws S_query_Pick.ap) S_query_Pick.ah) (fun y => fixR Tryz.prog S_query_Pick.plan S_query_Pick.ah.length y) =
    (m_query_Pick [.s v0, .s v1, .s v2, .i v3, .i v4, .l v5, .l v6, .b v7, .l v8, .l v9]).go br (fun _ => none) S_query_Pick.fin := by
  rw [← callF_eq]; kernel_rfl
theorem e_query_Pick : EOK Tryz.prog 14 (gF S_query_Pick m_query_Pick) :=
  eokTold mixed named x132 (loopsOK_list rids lk_query_Pick_14_5) 60 S_query_Pick m_query_Pick (by
    intro us v h; unfold m_query_Pick at h; split at h
    · rename_i v0 v1 v2 v3 v4 v5 v6 v7 v8 v9; exact q_query_Pick v0 v1 v2 v3 v4 v5 v6 v7 v8 v9
    · cases h) false
noncomputable abbrev X133 : Ext := extT [(14, (gF S_query_Pick m_query_Pick))] X132
theorem x133 : XOK Tryz.prog X133 := xok1 x132 e_query_Pick

def L_delta_may : FuncId → Nat → Option (List Nat) := liveT [(50, 2, [5, 6, 7]), (50, 1000002, []), (50, 2000002, [2])]
def M_delta_may : FuncId → Bool := fun _ => false
noncomputable def rd_delta_may_50_2 : List U → Rt
  | [.l v0, .i v1, .i v2] =>
    (.test (decide (v2 < v1))
    (.test (inR v2 (ln v0))
    (let r0 : Rs := (Rt.res (m_bag_May [U.l (cL (el v0 v2) 0)]))
    (.test (ok r0 0)
    (.test (!uB (out r0 0) 0)
    (.stop 0 [.b false])
    (.next [.l v0, .i v1, .i (w64 (v2 + (1 : Int)))]))
    .fail))
    .fail)
    (.stop 1 []))
  | _ => .fail
def sp_delta_may_50_2 : LSp := ⟨15, ⟨[(5, .one (.l 30)), (6, .one (.i .i64)), (7, .one (.i .i64))], []⟩, [(.ret, ⟨[(2, .one (.b))], []⟩), (.exit 0, ⟨[], []⟩)]⟩
set_option maxRecDepth 100000 in
theorem rq_delta_may_50_2 (v0 : List (List PV)) (v1 : Int) (v2 : Int) : runK br Tryz.prog (callK br Tryz.prog X133 M_delta_may L_delta_may (lsT []) 40) M_delta_may (lsT [] 50 0) 40 0 (L_delta_may 50) (bodyOf Tryz.prog 50 2) (sp_delta_may_50_2.s.ts sp_delta_may_50_2.n [.l v0, .i v1, .i v2]) (sp_delta_may_50_2.s.h [.l v0, .i v1, .i v2]) (idc Tryz.prog 0 (L_delta_may 50) 2) =
    (rd_delta_may_50_2 [.l v0, .i v1, .i v2]).go br (fun us' => some (.normal, sp_delta_may_50_2.s.ts sp_delta_may_50_2.n us', sp_delta_may_50_2.s.h us')) sp_delta_may_50_2.fin := by
  rw [← callF_eq, ← runF_eq]; kernel_rfl
theorem lo_delta_may_50_2 {R : Type} : LoopTells Tryz.prog X133 M_delta_may L_delta_may 0 (L_delta_may 50) (bodyOf Tryz.prog 50 2) (gL (R := R) sp_delta_may_50_2 rd_delta_may_50_2 br) :=
  loopTold (callK_ev (loopsOK_list rids noneIn) 40) (lsokIn (loopsOK_list rids noneIn) 50 0 2) (by kernel_rfl) sp_delta_may_50_2 rd_delta_may_50_2 rfl (by kernel_rfl) (by
    intro us v h; unfold rd_delta_may_50_2 at h; split at h
    · rename_i v0 v1 v2; exact rq_delta_may_50_2 v0 v1 v2
    · cases h)
noncomputable abbrev ll_delta_may_50_2 {R : Type} : List (Nat × Nat × Nat × Smy R) := (50, 0, 2, gL sp_delta_may_50_2 rd_delta_may_50_2 br) :: []
theorem lk_delta_may_50_2 {R : Type} : ∀ e ∈ ll_delta_may_50_2 (R := R), LoopTells Tryz.prog X133 M_delta_may L_delta_may e.2.1 (L_delta_may e.1) (bodyOf Tryz.prog e.1 e.2.2.1) e.2.2.2 := List.forall_mem_cons.2 ⟨lo_delta_may_50_2, noneIn⟩
def S_delta_may : FSp := ⟨[.one (.l 30)], [], [], [([.one (.b)], [])]⟩
noncomputable def m_delta_may : List U → Rt
  | [.l v0] =>
    (let r0 : Rs := (lres rd_delta_may_50_2 [U.l v0, U.i (ln v0), U.i (0 : Int)])
    (.test (ok r0 0)
    (.stop 0 [.b (uB (out r0 0) 0)])
    (.test (ok r0 1)
    (.stop 0 [.b true])
    .fail)))
  | _ => .fail
set_option maxRecDepth 100000 in
theorem q_delta_may (v0 : List (List PV)) : callK br Tryz.prog X133 M_delta_may L_delta_may (lsT ll_delta_may_50_2) 60 50 (encs [.l v0] 0 S_delta_may.ap) (encH [.l v0] (ws S_delta_may.ap) S_delta_may.ah) (fun y => fixR Tryz.prog S_delta_may.plan S_delta_may.ah.length y) =
    (m_delta_may [.l v0]).go br (fun _ => none) S_delta_may.fin := by
  rw [← callF_eq]; kernel_rfl
theorem e_delta_may : EOK Tryz.prog 50 (gF S_delta_may m_delta_may) :=
  eokTold mixed named x133 (loopsOK_list rids lk_delta_may_50_2) 60 S_delta_may m_delta_may (by
    intro us v h; unfold m_delta_may at h; split at h
    · rename_i v0; exact q_delta_may v0
    · cases h) false
noncomputable abbrev X134 : Ext := extT [(50, (gF S_delta_may m_delta_may))] X133
theorem x134 : XOK Tryz.prog X134 := xok1 x133 e_delta_may

def L_delta_Product : FuncId → Nat → Option (List Nat) := liveT [(18, 7, [3, 61000008, 50, 51, 52]), (18, 1000007, [8]), (18, 2000007, [6, 7]), (18, 16, [109000013, 73, 74, 75]), (18, 1000016, [13]), (18, 2000016, [6, 7])]
def M_delta_Product : FuncId → Bool := fun _ => false
noncomputable def rd_delta_Product_18_7 : List U → Rt
  | [.i v0, .i v1, .s v2, .s v3, .s v4, .i v5, .i v6, .l v7, .l v8, .b v9, .l v10, .l v11, .l v12] =>
    (.test (decide (v1 < v0))
    (.test (inR v1 (ln v12))
    (.test (decide (Int.toNat v1 < List.length v12))
    (let r0 : Rs := (Rt.res (m_query_Product [U.s v2, U.s v3, U.s v4, U.i v5, U.i v6, U.l v7, U.l v8, U.b v9, U.l v10, U.l (cL (el v12 v1) 0), U.l (cL (el v12 v1) 1)]))
    (.test (ok r0 0)
    (.test (uI (out r0 0) 0 != (0 : Int))
    (.stop 0 [.i (uI (out r0 0) 0)])
    (.test (decide ((List.length v11 + 1) * 24 ≤ 140737488355328))
    (.next [.i v0, .i (w64 (v1 + (1 : Int))), .s v2, .s v3, .s v4, .i v5, .i v6, .l v7, .l v8, .b v9, .l v10, .l (v11 ++ [[PV.lst 54 (uL (out r0 0) 1)]]), .l v12])
    .fail))
    .fail))
    .fail)
    .fail)
    (.stop 1 [.l v11]))
  | _ => .fail
def sp_delta_Product_18_7 : LSp := ⟨89, ⟨[(3, .one (.ptr 0 0)), (8, .one (.all 1)), (50, .one (.all 2)), (51, .one (.i .i64)), (52, .one (.i .i64))], [.box 28 [.one (.s), .one (.s), .one (.s), .one (.i .i64), .one (.i .i64), .one (.l 58), .one (.l 3), .one (.b), .one (.l 165)], .arr 30 true, .arr 81 true]⟩, [(.ret, ⟨[(6, .one (.nils)), (7, .one (.i .i64))], []⟩), (.exit 0, ⟨[(8, .one (.all 0))], [.arr 30 true]⟩)]⟩
set_option maxRecDepth 100000 in
theorem rq_delta_Product_18_7 (v0 : Int) (v1 : Int) (v2 : ByteArray) (v3 : ByteArray) (v4 : ByteArray) (v5 : Int) (v6 : Int) (v7 : List (List PV)) (v8 : List (List PV)) (v9 : Bool) (v10 : List (List PV)) (v11 : List (List PV)) (v12 : List (List PV)) : runK br Tryz.prog (callK br Tryz.prog X134 M_delta_Product L_delta_Product (lsT []) 40) M_delta_Product (lsT [] 18 0) 40 0 (L_delta_Product 18) (bodyOf Tryz.prog 18 7) (sp_delta_Product_18_7.s.ts sp_delta_Product_18_7.n [.i v0, .i v1, .s v2, .s v3, .s v4, .i v5, .i v6, .l v7, .l v8, .b v9, .l v10, .l v11, .l v12]) (sp_delta_Product_18_7.s.h [.i v0, .i v1, .s v2, .s v3, .s v4, .i v5, .i v6, .l v7, .l v8, .b v9, .l v10, .l v11, .l v12]) (idc Tryz.prog 0 (L_delta_Product 18) 7) =
    (rd_delta_Product_18_7 [.i v0, .i v1, .s v2, .s v3, .s v4, .i v5, .i v6, .l v7, .l v8, .b v9, .l v10, .l v11, .l v12]).go br (fun us' => some (.normal, sp_delta_Product_18_7.s.ts sp_delta_Product_18_7.n us', sp_delta_Product_18_7.s.h us')) sp_delta_Product_18_7.fin := by
  rw [← callF_eq, ← runF_eq]; kernel_rfl
theorem lo_delta_Product_18_7 {R : Type} : LoopTells Tryz.prog X134 M_delta_Product L_delta_Product 0 (L_delta_Product 18) (bodyOf Tryz.prog 18 7) (gL (R := R) sp_delta_Product_18_7 rd_delta_Product_18_7 br) :=
  loopTold (callK_ev (loopsOK_list rids noneIn) 40) (lsokIn (loopsOK_list rids noneIn) 18 0 7) (by kernel_rfl) sp_delta_Product_18_7 rd_delta_Product_18_7 rfl (by kernel_rfl) (by
    intro us v h; unfold rd_delta_Product_18_7 at h; split at h
    · rename_i v0 v1 v2 v3 v4 v5 v6 v7 v8 v9 v10 v11 v12; exact rq_delta_Product_18_7 v0 v1 v2 v3 v4 v5 v6 v7 v8 v9 v10 v11 v12
    · cases h)
noncomputable abbrev ll_delta_Product_18_7 {R : Type} : List (Nat × Nat × Nat × Smy R) := (18, 0, 7, gL sp_delta_Product_18_7 rd_delta_Product_18_7 br) :: []
theorem lk_delta_Product_18_7 {R : Type} : ∀ e ∈ ll_delta_Product_18_7 (R := R), LoopTells Tryz.prog X134 M_delta_Product L_delta_Product e.2.1 (L_delta_Product e.1) (bodyOf Tryz.prog e.1 e.2.2.1) e.2.2.2 := List.forall_mem_cons.2 ⟨lo_delta_Product_18_7, noneIn⟩
noncomputable def rd_delta_Product_18_16 : List U → Rt
  | [.i v0, .i v1, .l v2, .l v3] =>
    (.test (decide (v1 < v0))
    (.test (inR v1 (ln v3))
    (.test (decide (Int.toNat v1 < List.length v3))
    (.test (decide ((List.length v2 + List.length (cL (el v3 v1) 0)) * 32 ≤ 140737488355328))
    (.next [.i v0, .i (w64 (v1 + (1 : Int))), .l (v2 ++ cL (el v3 v1) 0), .l v3])
    .fail)
    .fail)
    .fail)
    (.stop 0 [.l v2]))
  | _ => .fail
def sp_delta_Product_18_16 : LSp := ⟨89, ⟨[(13, .one (.all 0)), (73, .one (.all 1)), (74, .one (.i .i64)), (75, .one (.i .i64))], [.arr 54 true, .arr 30 true]⟩, [(.exit 2, ⟨[(13, .one (.all 0))], [.arr 54 true]⟩)]⟩
set_option maxRecDepth 100000 in
theorem rq_delta_Product_18_16 (v0 : Int) (v1 : Int) (v2 : List (List PV)) (v3 : List (List PV)) : runK br Tryz.prog (callK br Tryz.prog X134 M_delta_Product L_delta_Product (lsT ll_delta_Product_18_7) 40) M_delta_Product (lsT ll_delta_Product_18_7 18 0) 40 0 (L_delta_Product 18) (bodyOf Tryz.prog 18 16) (sp_delta_Product_18_16.s.ts sp_delta_Product_18_16.n [.i v0, .i v1, .l v2, .l v3]) (sp_delta_Product_18_16.s.h [.i v0, .i v1, .l v2, .l v3]) (idc Tryz.prog 0 (L_delta_Product 18) 16) =
    (rd_delta_Product_18_16 [.i v0, .i v1, .l v2, .l v3]).go br (fun us' => some (.normal, sp_delta_Product_18_16.s.ts sp_delta_Product_18_16.n us', sp_delta_Product_18_16.s.h us')) sp_delta_Product_18_16.fin := by
  rw [← callF_eq, ← runF_eq]; kernel_rfl
theorem lo_delta_Product_18_16 {R : Type} : LoopTells Tryz.prog X134 M_delta_Product L_delta_Product 0 (L_delta_Product 18) (bodyOf Tryz.prog 18 16) (gL (R := R) sp_delta_Product_18_16 rd_delta_Product_18_16 br) :=
  loopTold (callK_ev (loopsOK_list rids lk_delta_Product_18_7) 40) (lsokIn (loopsOK_list rids lk_delta_Product_18_7) 18 0 16) (by kernel_rfl) sp_delta_Product_18_16 rd_delta_Product_18_16 rfl (by kernel_rfl) (by
    intro us v h; unfold rd_delta_Product_18_16 at h; split at h
    · rename_i v0 v1 v2 v3; exact rq_delta_Product_18_16 v0 v1 v2 v3
    · cases h)
noncomputable abbrev ll_delta_Product_18_16 {R : Type} : List (Nat × Nat × Nat × Smy R) := (18, 0, 16, gL sp_delta_Product_18_16 rd_delta_Product_18_16 br) :: ll_delta_Product_18_7
theorem lk_delta_Product_18_16 {R : Type} : ∀ e ∈ ll_delta_Product_18_16 (R := R), LoopTells Tryz.prog X134 M_delta_Product L_delta_Product e.2.1 (L_delta_Product e.1) (bodyOf Tryz.prog e.1 e.2.2.1) e.2.2.2 := List.forall_mem_cons.2 ⟨lo_delta_Product_18_16, lk_delta_Product_18_7⟩
def S_delta_Product : FSp := ⟨[.agg [.s, .s, .s, .i .i64, .i .i64, .l 58, .l 3, .b, .l 165], .agg [.l 54, .l 54], .agg [.l 54, .l 54]], [], [109000000], [([.one (.all 0), .one (.i .i64)], [.arr 54 true])]⟩
noncomputable def m_delta_Product : List U → Rt
  | [.s v0, .s v1, .s v2, .i v3, .i v4, .l v5, .l v6, .b v7, .l v8, .l v9, .l v10, .l v11, .l v12] =>
    (let r0 : Rs := (Rt.res (m_delta_may [U.l [[PV.lst 54 v9], [PV.lst 54 v10], [PV.lst 54 v11], [PV.lst 54 v12]]]))
    (.test (ok r0 0)
    (.test (!uB (out r0 0) 0)
    (.stop 0 [.i ((1 : Int)), .l []])
    (.test (ByteArray.toList v2 == [])
    (let r1 : Rs := (Rt.res (m_bag_Plus [U.l [[PV.lst 54 v10]]]))
    (.test (ok r1 0)
    (.stop 0 [.i ((0 : Int)), .l (uL (out r1 0) 0)])
    .fail))
    (let r2 : Rs := (lres rd_delta_Product_18_7 [U.i (3 : Int), U.i (0 : Int), U.s v0, U.s v1, U.s v2, U.i v3, U.i v4, U.l v5, U.l v6, U.b v7, U.l v8, U.l [], U.l [[PV.lst 54 v10, PV.lst 54 v11], [PV.lst 54 v9, PV.lst 54 v12], [PV.lst 54 v10, PV.lst 54 v12]]])
    (.test (ok r2 0)
    (.stop 0 [.i (uI (out r2 0) 0), .l []])
    (.test (ok r2 1)
    (let r3 : Rs := (lres rd_delta_Product_18_16 [U.i (ln (uL (out r2 1) 0)), U.i (0 : Int), U.l [], U.l (uL (out r2 1) 0)])
    (.test (ok r3 0)
    (let r4 : Rs := (Rt.res (m_bag_Sum [U.l (uL (out r3 0) 0)]))
    (.test (ok r4 0)
    (let r5 : Rs := (Rt.res (m_bag_May [U.l (uL (out r4 0) 0)]))
    (.test (ok r5 0)
    (.test (!uB (out r5 0) 0)
    (.stop 0 [.i ((100 : Int)), .l []])
    (.stop 0 [.i ((0 : Int)), .l (uL (out r4 0) 0)]))
    .fail))
    .fail))
    .fail))
    .fail)))))
    .fail))
  | _ => .fail
set_option maxRecDepth 100000 in
theorem q_delta_Product (v0 : ByteArray) (v1 : ByteArray) (v2 : ByteArray) (v3 : Int) (v4 : Int) (v5 : List (List PV)) (v6 : List (List PV)) (v7 : Bool) (v8 : List (List PV)) (v9 : List (List PV)) (v10 : List (List PV)) (v11 : List (List PV)) (v12 : List (List PV)) : callK br Tryz.prog X134 M_delta_Product L_delta_Product (lsT ll_delta_Product_18_16) 60 18 (encs [.s v0, .s v1, .s v2, .i v3, .i v4, .l v5, .l v6, .b v7, .l v8, .l v9, .l v10, .l v11, .l v12] 0 S_delta_Product.ap) (encH [.s v0, .s v1, .s v2, .i v3, .i v4, .l v5, .l v6, .b v7, .l v8, .l v9, .l v10, .l v11, .l v12] (ws S_delta_Product.ap) S_delta_Product.ah) (fun y => fixR Tryz.prog S_delta_Product.plan S_delta_Product.ah.length y) =
    (m_delta_Product [.s v0, .s v1, .s v2, .i v3, .i v4, .l v5, .l v6, .b v7, .l v8, .l v9, .l v10, .l v11, .l v12]).go br (fun _ => none) S_delta_Product.fin := by
  rw [← callF_eq]; kernel_rfl
theorem e_delta_Product : EOK Tryz.prog 18 (gF S_delta_Product m_delta_Product) :=
  eokTold mixed named x134 (loopsOK_list rids lk_delta_Product_18_16) 60 S_delta_Product m_delta_Product (by
    intro us v h; unfold m_delta_Product at h; split at h
    · rename_i v0 v1 v2 v3 v4 v5 v6 v7 v8 v9 v10 v11 v12; exact q_delta_Product v0 v1 v2 v3 v4 v5 v6 v7 v8 v9 v10 v11 v12
    · cases h) false
noncomputable abbrev X135 : Ext := extT [(18, (gF S_delta_Product m_delta_Product))] X134
theorem x135 : XOK Tryz.prog X135 := xok1 x134 e_delta_Product

def L_delta_Joined : FuncId → Nat → Option (List Nat) := liveT []
def M_delta_Joined : FuncId → Bool := fun _ => false
def S_delta_Joined : FSp := ⟨[.agg [.s, .s, .s, .i .i64, .i .i64, .l 58, .l 3, .b, .l 165], .agg [.l 54, .l 54], .agg [.l 54, .l 54]], [], [109000000], [([.one (.all 0), .one (.i .i64)], [.arr 54 true])]⟩
noncomputable def m_delta_Joined : List U → Rt
  | [.s v0, .s v1, .s v2, .i v3, .i v4, .l v5, .l v6, .b v7, .l v8, .l v9, .l v10, .l v11, .l v12] =>
    (let r0 : Rs := (Rt.res (m_delta_Product [U.s v0, U.s v1, U.s v2, U.i v3, U.i v4, U.l v5, U.l v6, U.b v7, U.l v8, U.l v9, U.l v10, U.l v11, U.l v12]))
    (.test (ok r0 0)
    (.test (uI (out r0 0) 0 != (0 : Int))
    (.stop 0 [.i (uI (out r0 0) 0), .l []])
    (let r1 : Rs := (Rt.res (m_query_Where [U.s v0, U.s v1, U.s v2, U.i v3, U.i v4, U.l v5, U.l v6, U.b v7, U.l v8, U.l (uL (out r0 0) 1)]))
    (.test (ok r1 0)
    (.stop 0 [.i (uI (out r1 0) 0), .l (uL (out r1 0) 1)])
    .fail)))
    .fail))
  | _ => .fail
set_option maxRecDepth 100000 in
theorem q_delta_Joined (v0 : ByteArray) (v1 : ByteArray) (v2 : ByteArray) (v3 : Int) (v4 : Int) (v5 : List (List PV)) (v6 : List (List PV)) (v7 : Bool) (v8 : List (List PV)) (v9 : List (List PV)) (v10 : List (List PV)) (v11 : List (List PV)) (v12 : List (List PV)) : callK br Tryz.prog X135 M_delta_Joined L_delta_Joined (lsT []) 60 20 (encs [.s v0, .s v1, .s v2, .i v3, .i v4, .l v5, .l v6, .b v7, .l v8, .l v9, .l v10, .l v11, .l v12] 0 S_delta_Joined.ap) (encH [.s v0, .s v1, .s v2, .i v3, .i v4, .l v5, .l v6, .b v7, .l v8, .l v9, .l v10, .l v11, .l v12] (ws S_delta_Joined.ap) S_delta_Joined.ah) (fun y => fixR Tryz.prog S_delta_Joined.plan S_delta_Joined.ah.length y) =
    (m_delta_Joined [.s v0, .s v1, .s v2, .i v3, .i v4, .l v5, .l v6, .b v7, .l v8, .l v9, .l v10, .l v11, .l v12]).go br (fun _ => none) S_delta_Joined.fin := by
  rw [← callF_eq]; kernel_rfl
theorem e_delta_Joined : EOK Tryz.prog 20 (gF S_delta_Joined m_delta_Joined) :=
  eokTold mixed named x135 (loopsOK_list rids noneIn) 60 S_delta_Joined m_delta_Joined (by
    intro us v h; unfold m_delta_Joined at h; split at h
    · rename_i v0 v1 v2 v3 v4 v5 v6 v7 v8 v9 v10 v11 v12; exact q_delta_Joined v0 v1 v2 v3 v4 v5 v6 v7 v8 v9 v10 v11 v12
    · cases h) false
noncomputable abbrev X136 : Ext := extT [(20, (gF S_delta_Joined m_delta_Joined))] X135
theorem x136 : XOK Tryz.prog X136 := xok1 x135 e_delta_Joined

def L_R01_Int : FuncId → Nat → Option (List Nat) := liveT []
def M_R01_Int : FuncId → Bool := fun _ => false
def S_R01_Int : FSp := ⟨[.one (.i .i64)], [], [], [([.agg [.i .i64, .i .i64, .s]], [])]⟩
noncomputable def m_R01_Int : List U → Rt
  | [.i v0] =>
    (.stop 0 [.i ((2 : Int)), .i v0, .s ({ data := #[] })])
  | _ => .fail
set_option maxRecDepth 100000 in
theorem q_R01_Int (v0 : Int) : callK br Tryz.prog X136 M_R01_Int L_R01_Int (lsT []) 60 27 (encs [.i v0] 0 S_R01_Int.ap) (encH [.i v0] (ws S_R01_Int.ap) S_R01_Int.ah) (fun y => fixR Tryz.prog S_R01_Int.plan S_R01_Int.ah.length y) =
    (m_R01_Int [.i v0]).go br (fun _ => none) S_R01_Int.fin := by
  rw [← callF_eq]; kernel_rfl
theorem e_R01_Int : EOK Tryz.prog 27 (gI S_R01_Int m_R01_Int) :=
  eokTold mixed named x136 (loopsOK_list rids noneIn) 60 S_R01_Int m_R01_Int (by
    intro us v h; unfold m_R01_Int at h; split at h
    · rename_i v0; exact q_R01_Int v0
    · cases h) true
noncomputable abbrev X137 : Ext := extT [(27, (gI S_R01_Int m_R01_Int))] X136
theorem x137 : XOK Tryz.prog X137 := xok1 x136 e_R01_Int

def L_L10_one : FuncId → Nat → Option (List Nat) := liveT []
def M_L10_one : FuncId → Bool := fun _ => false
def S_L10_one : FSp := ⟨[.one (.i .i64), .one (.i .i64)], [], [], [([.one (.all 0)], [.arr 54 true])]⟩
noncomputable def m_L10_one : List U → Rt
  | [.i v0, .i v1] =>
    (.stop 0 [.l ([[PV.lst 56 [[pI (2 : Int), pI v0, pS { data := #[] }]], pI v1]])])
  | _ => .fail
set_option maxRecDepth 100000 in
theorem q_L10_one (v0 : Int) (v1 : Int) : callK br Tryz.prog X137 M_L10_one L_L10_one (lsT []) 60 28 (encs [.i v0, .i v1] 0 S_L10_one.ap) (encH [.i v0, .i v1] (ws S_L10_one.ap) S_L10_one.ah) (fun y => fixR Tryz.prog S_L10_one.plan S_L10_one.ah.length y) =
    (m_L10_one [.i v0, .i v1]).go br (fun _ => none) S_L10_one.fin := by
  rw [← callF_eq]; kernel_rfl
theorem e_L10_one : EOK Tryz.prog 28 (gI S_L10_one m_L10_one) :=
  eokTold mixed named x137 (loopsOK_list rids noneIn) 60 S_L10_one m_L10_one (by
    intro us v h; unfold m_L10_one at h; split at h
    · rename_i v0 v1; exact q_L10_one v0 v1
    · cases h) true
noncomputable abbrev X138 : Ext := extT [(28, (gI S_L10_one m_L10_one))] X137
theorem x138 : XOK Tryz.prog X138 := xok1 x137 e_L10_one

def L_R05_Fits : FuncId → Nat → Option (List Nat) := liveT []
def M_R05_Fits : FuncId → Bool := fun _ => false
def S_R05_Fits : FSp := ⟨[.one (.i .i64)], [], [], [([.one (.b)], [])]⟩
noncomputable def m_R05_Fits : List U → Rt
  | [.i v0] =>
    (.test (decide (v0 ≥ (-1000000000 : Int)))
    (.stop 0 [.b (decide (v0 ≤ (1000000000 : Int)))])
    (.stop 0 [.b false]))
  | _ => .fail
set_option maxRecDepth 100000 in
theorem q_R05_Fits (v0 : Int) : callK br Tryz.prog X138 M_R05_Fits L_R05_Fits (lsT []) 60 40 (encs [.i v0] 0 S_R05_Fits.ap) (encH [.i v0] (ws S_R05_Fits.ap) S_R05_Fits.ah) (fun y => fixR Tryz.prog S_R05_Fits.plan S_R05_Fits.ah.length y) =
    (m_R05_Fits [.i v0]).go br (fun _ => none) S_R05_Fits.fin := by
  rw [← callF_eq]; kernel_rfl
theorem e_R05_Fits : EOK Tryz.prog 40 (gF S_R05_Fits m_R05_Fits) :=
  eokTold mixed named x138 (loopsOK_list rids noneIn) 60 S_R05_Fits m_R05_Fits (by
    intro us v h; unfold m_R05_Fits at h; split at h
    · rename_i v0; exact q_R05_Fits v0
    · cases h) false
noncomputable abbrev X139 : Ext := extT [(40, (gF S_R05_Fits m_R05_Fits))] X138
theorem x139 : XOK Tryz.prog X139 := xok1 x138 e_R05_Fits

def L_R01_May : FuncId → Nat → Option (List Nat) := liveT []
def M_R01_May : FuncId → Bool := fun _ => false
def S_R01_May : FSp := ⟨[.agg [.i .i64, .i .i64, .s]], [], [], [([.one (.b)], [])]⟩
noncomputable def m_R01_May : List U → Rt
  | [.i v0, .i v1, .s v2] =>
    (.test (v0 == (0 : Int))
    (.test (ByteArray.toList v2 == [])
    (.test (decide (v1 ≥ (0 : Int)))
    (.stop 0 [.b (decide (v1 ≤ v0))])
    (.stop 0 [.b false]))
    (.stop 0 [.b false]))
    (.test (v0 == (1 : Int))
    (.test (ByteArray.toList v2 == [])
    (.test (decide (v1 ≥ (0 : Int)))
    (.stop 0 [.b (decide (v1 ≤ v0))])
    (.stop 0 [.b false]))
    (.stop 0 [.b false]))
    (.test (v0 == (2 : Int))
    (.stop 0 [.b (ByteArray.toList v2 == [])])
    (.test (v0 == (3 : Int))
    (.test (v1 == (0 : Int))
    (.stop 0 [.b (decide ((↑(ByteArray.size v2) : Int) ≤ (1000 : Int)))])
    (.stop 0 [.b false]))
    (.stop 0 [.b false])))))
  | _ => .fail
set_option maxRecDepth 100000 in
theorem q_R01_May (v0 : Int) (v1 : Int) (v2 : ByteArray) : callK br Tryz.prog X139 M_R01_May L_R01_May (lsT []) 60 83 (encs [.i v0, .i v1, .s v2] 0 S_R01_May.ap) (encH [.i v0, .i v1, .s v2] (ws S_R01_May.ap) S_R01_May.ah) (fun y => fixR Tryz.prog S_R01_May.plan S_R01_May.ah.length y) =
    (m_R01_May [.i v0, .i v1, .s v2]).go br (fun _ => none) S_R01_May.fin := by
  rw [← callF_eq]; kernel_rfl
theorem e_R01_May : EOK Tryz.prog 83 (gF S_R01_May m_R01_May) :=
  eokTold mixed named x139 (loopsOK_list rids noneIn) 60 S_R01_May m_R01_May (by
    intro us v h; unfold m_R01_May at h; split at h
    · rename_i v0 v1 v2; exact q_R01_May v0 v1 v2
    · cases h) false
noncomputable abbrev X140 : Ext := extT [(83, (gF S_R01_May m_R01_May))] X139
theorem x140 : XOK Tryz.prog X140 := xok1 x139 e_R01_May

end Go.Proofs.YtikmahlogjcieaaGreat
