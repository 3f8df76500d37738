/- Texts of this seat, one behind the other. -/
import Derived.Test.YtikmahlogjcieaaKX
import Derived.Test.YtikmahlogjcieaaTE
set_option linter.unusedVariables false
namespace Go.Proofs.Ytikmahlogjcieaa
open Go Go.Pu

def L_bag_Sum : FuncId → Nat → Option (List Nat) := liveT [(39, 7, [0, 3, 4, 5]), (39, 1000007, [0, 3, 4, 5]), (39, 2000007, [2]), (39, 5, [0, 93000003, 4]), (39, 1000005, [3]), (39, 2000005, [2])]
def M_bag_Sum : FuncId → Bool := fun f => f == 59
noncomputable def rd_bag_Sum_39_7 : List U → Rt
  | [.i v0, .l v1, .l v2, .i v3, .l v4] =>
    (.test (decide (v0 < ln v1))
    (.test (inR v0 (ln v1))
    (.test (decide (Int.toNat v0 < List.length v1))
    (let r0 : Rs := (Rt.res (m_row_Compare [U.l (cL (el v1 v0) 0), U.l v4]))
    (.test (ok r0 0)
    (.test (uI (out r0 0) 0 == (0 : Int))
    (.test (inR v0 (ln v1))
    (.test (decide (Int.toNat v0 < List.length v1))
    (.next [.i (w64 (v0 + (1 : Int))), .l v1, .l v2, .i (w64 (v3 + cI (el v1 v0) 1)), .l v4])
    .fail)
    .fail)
    (.stop 0 [.i v0, .l v1, .l v2, .i v3, .l v4]))
    .fail))
    .fail)
    .fail)
    (.stop 0 [.i v0, .l v1, .l v2, .i v3, .l v4]))
  | _ => .fail
def sp_bag_Sum_39_7 : LSp := ⟨55, ⟨[(0, .one (.all 0)), (3, .one (.all 1)), (4, .one (.i .i64)), (5, .one (.ptr 2 0))], [.arr 46 true, .arr 46 true, .box 46 [.one (.all 3), .one (.i .i64)], .arr 48 true]⟩, [(.exit 2, ⟨[(0, .one (.all 0)), (3, .one (.all 1)), (4, .one (.i .i64)), (5, .one (.ptr 2 0))], [.arr 46 true, .arr 46 true, .box 46 [.one (.all 3), .one (.i .i64)], .arr 48 true]⟩)]⟩
set_option maxRecDepth 100000 in
theorem rq_bag_Sum_39_7 (v0 : Int) (v1 : List (List PV)) (v2 : List (List PV)) (v3 : Int) (v4 : List (List PV)) : runK br Try.prog (callK br Try.prog XJ M_bag_Sum L_bag_Sum (lsT []) 40) M_bag_Sum (lsT [] 39 0) 40 0 (L_bag_Sum 39) (bodyOf Try.prog 39 7) (sp_bag_Sum_39_7.s.ts sp_bag_Sum_39_7.n [.i v0, .l v1, .l v2, .i v3, .l v4]) (sp_bag_Sum_39_7.s.h [.i v0, .l v1, .l v2, .i v3, .l v4]) (idc Try.prog 0 (L_bag_Sum 39) 7) =
    (rd_bag_Sum_39_7 [.i v0, .l v1, .l v2, .i v3, .l v4]).go br (fun us' => some (.normal, sp_bag_Sum_39_7.s.ts sp_bag_Sum_39_7.n us', sp_bag_Sum_39_7.s.h us')) sp_bag_Sum_39_7.fin := by
  rw [← callF_eq, ← runF_eq]; kernel_rfl
theorem lo_bag_Sum_39_7 {R : Type} : LoopTells Try.prog XJ M_bag_Sum L_bag_Sum 0 (L_bag_Sum 39) (bodyOf Try.prog 39 7) (gL (R := R) sp_bag_Sum_39_7 rd_bag_Sum_39_7 br) :=
  loopTold (callK_ev (loopsOK_list rids noneIn) 40) (lsokIn (loopsOK_list rids noneIn) 39 0 7) (by kernel_rfl) sp_bag_Sum_39_7 rd_bag_Sum_39_7 rfl (by kernel_rfl) (by
    intro us v h; unfold rd_bag_Sum_39_7 at h; split at h
    · rename_i v0 v1 v2 v3 v4; exact rq_bag_Sum_39_7 v0 v1 v2 v3 v4
    · cases h)
noncomputable abbrev ll_bag_Sum_39_7 {R : Type} : List (Nat × Nat × Nat × Smy R) := (39, 0, 7, gL sp_bag_Sum_39_7 rd_bag_Sum_39_7 br) :: []
theorem lk_bag_Sum_39_7 {R : Type} : ∀ e ∈ ll_bag_Sum_39_7 (R := R), LoopTells Try.prog XJ M_bag_Sum L_bag_Sum e.2.1 (L_bag_Sum e.1) (bodyOf Try.prog e.1 e.2.2.1) e.2.2.2 := List.forall_mem_cons.2 ⟨lo_bag_Sum_39_7, noneIn⟩
noncomputable def rd_bag_Sum_39_5 : List U → Rt
  | [.i v0, .l v1, .l v2] =>
    (.test (decide (v0 < ln v1))
    (.test (inR v0 (ln v1))
    (.test (decide (Int.toNat v0 < List.length v1))
    (.test (decide ((0 + List.length (cL (el v1 v0) 0)) * 32 ≤ 140737488355328))
    (let r0 : Rs := (lres rd_bag_Sum_39_7 [U.i v0, U.l v1, U.l v2, U.i (0 : Int), U.l (cL (el v1 v0) 0)])
    (.test (ok r0 0)
    (.test (uI (out r0 0) 3 != (0 : Int))
    (.test (decide ((List.length (uL (out r0 0) 2) + 1) * 32 ≤ 140737488355328))
    (.next [.i (uI (out r0 0) 0), .l (uL (out r0 0) 1), .l (uL (out r0 0) 2 ++ [[PV.lst 48 (uL (out r0 0) 4), pI (uI (out r0 0) 3)]])])
    .fail)
    (.next [.i (uI (out r0 0) 0), .l (uL (out r0 0) 1), .l (uL (out r0 0) 2)]))
    .fail))
    .fail)
    .fail)
    .fail)
    (.stop 0 [.l v2]))
  | _ => .fail
def sp_bag_Sum_39_5 : LSp := ⟨55, ⟨[(0, .one (.all 0)), (3, .one (.all 1)), (4, .one (.i .i64))], [.arr 46 true, .arr 46 true]⟩, [(.exit 0, ⟨[(3, .one (.all 0))], [.arr 46 true]⟩)]⟩
set_option maxRecDepth 100000 in
theorem rq_bag_Sum_39_5 (v0 : Int) (v1 : List (List PV)) (v2 : List (List PV)) : runK br Try.prog (callK br Try.prog XJ M_bag_Sum L_bag_Sum (lsT ll_bag_Sum_39_7) 40) M_bag_Sum (lsT ll_bag_Sum_39_7 39 0) 40 0 (L_bag_Sum 39) (bodyOf Try.prog 39 5) (sp_bag_Sum_39_5.s.ts sp_bag_Sum_39_5.n [.i v0, .l v1, .l v2]) (sp_bag_Sum_39_5.s.h [.i v0, .l v1, .l v2]) (idc Try.prog 0 (L_bag_Sum 39) 5) =
    (rd_bag_Sum_39_5 [.i v0, .l v1, .l v2]).go br (fun us' => some (.normal, sp_bag_Sum_39_5.s.ts sp_bag_Sum_39_5.n us', sp_bag_Sum_39_5.s.h us')) sp_bag_Sum_39_5.fin := by
  rw [← callF_eq, ← runF_eq]; kernel_rfl
theorem lo_bag_Sum_39_5 {R : Type} : LoopTells Try.prog XJ M_bag_Sum L_bag_Sum 0 (L_bag_Sum 39) (bodyOf Try.prog 39 5) (gL (R := R) sp_bag_Sum_39_5 rd_bag_Sum_39_5 br) :=
  loopTold (callK_ev (loopsOK_list rids lk_bag_Sum_39_7) 40) (lsokIn (loopsOK_list rids lk_bag_Sum_39_7) 39 0 5) (by kernel_rfl) sp_bag_Sum_39_5 rd_bag_Sum_39_5 rfl (by kernel_rfl) (by
    intro us v h; unfold rd_bag_Sum_39_5 at h; split at h
    · rename_i v0 v1 v2; exact rq_bag_Sum_39_5 v0 v1 v2
    · cases h)
noncomputable abbrev ll_bag_Sum_39_5 {R : Type} : List (Nat × Nat × Nat × Smy R) := (39, 0, 5, gL sp_bag_Sum_39_5 rd_bag_Sum_39_5 br) :: ll_bag_Sum_39_7
theorem lk_bag_Sum_39_5 {R : Type} : ∀ e ∈ ll_bag_Sum_39_5 (R := R), LoopTells Try.prog XJ M_bag_Sum L_bag_Sum e.2.1 (L_bag_Sum e.1) (bodyOf Try.prog e.1 e.2.2.1) e.2.2.2 := List.forall_mem_cons.2 ⟨lo_bag_Sum_39_5, lk_bag_Sum_39_7⟩
def S_bag_Sum : FSp := ⟨[.one (.l 46)], [], [], [([.one (.all 0)], [.arr 46 true])]⟩
noncomputable def m_bag_Sum : List U → Rt
  | [.l v0] =>
    (.test (decide ((0 + List.length v0) * 32 ≤ 140737488355328))
    (let r0 : Rs := (Rt.res (m_slices_SortStableFunc_ [U.l v0]))
    (.test (ok r0 0)
    (let r1 : Rs := (lres rd_bag_Sum_39_5 [U.i (0 : Int), U.l (uL (out r0 0) 0), U.l []])
    (.test (ok r1 0)
    (.stop 0 [.l (uL (out r1 0) 0)])
    .fail))
    .fail))
    .fail)
  | _ => .fail
set_option maxRecDepth 100000 in
theorem q_bag_Sum (v0 : List (List PV)) : callK br Try.prog XJ M_bag_Sum L_bag_Sum (lsT ll_bag_Sum_39_5) 60 39 (encs [.l v0] 0 S_bag_Sum.ap) (encH [.l v0] (ws S_bag_Sum.ap) S_bag_Sum.ah) (fun y => fixR Try.prog S_bag_Sum.plan S_bag_Sum.ah.length y) =
    (m_bag_Sum [.l v0]).go br (fun _ => none) S_bag_Sum.fin := by
  rw [← callF_eq]; kernel_rfl
theorem e_bag_Sum : EOK Try.prog 39 (gF S_bag_Sum m_bag_Sum) :=
  eokTold mixed named xJ (loopsOK_list rids lk_bag_Sum_39_5) 60 S_bag_Sum m_bag_Sum (by
    intro us v h; unfold m_bag_Sum at h; split at h
    · rename_i v0; exact q_bag_Sum v0
    · cases h) false
noncomputable abbrev X101 : Ext := extT [(39, (gF S_bag_Sum m_bag_Sum))] XJ
theorem x101 : XOK Try.prog X101 := xok1 xJ e_bag_Sum

def L_bag_fits : FuncId → Nat → Option (List Nat) := liveT []
def M_bag_fits : FuncId → Bool := fun _ => false
def S_bag_fits : FSp := ⟨[.one (.i .i64)], [], [], [([.one (.b)], [])]⟩
noncomputable def m_bag_fits : List U → Rt
  | [.i v0] =>
    (.test (decide (v0 ≥ (-1000000000 : Int)))
    (.stop 0 [.b (decide (v0 ≤ (1000000000 : Int)))])
    (.stop 0 [.b false]))
  | _ => .fail
set_option maxRecDepth 100000 in
theorem q_bag_fits (v0 : Int) : callK br Try.prog X101 M_bag_fits L_bag_fits (lsT []) 60 50 (encs [.i v0] 0 S_bag_fits.ap) (encH [.i v0] (ws S_bag_fits.ap) S_bag_fits.ah) (fun y => fixR Try.prog S_bag_fits.plan S_bag_fits.ah.length y) =
    (m_bag_fits [.i v0]).go br (fun _ => none) S_bag_fits.fin := by
  rw [← callF_eq]; kernel_rfl
theorem e_bag_fits : EOK Try.prog 50 (gF S_bag_fits m_bag_fits) :=
  eokTold mixed named x101 (loopsOK_list rids noneIn) 60 S_bag_fits m_bag_fits (by
    intro us v h; unfold m_bag_fits at h; split at h
    · rename_i v0; exact q_bag_fits v0
    · cases h) false
noncomputable abbrev X102 : Ext := extT [(50, (gF S_bag_fits m_bag_fits))] X101
theorem x102 : XOK Try.prog X102 := xok1 x101 e_bag_fits

def L_value_May : FuncId → Nat → Option (List Nat) := liveT []
def M_value_May : FuncId → Bool := fun _ => false
def S_value_May : FSp := ⟨[.agg [.i .i64, .i .i64, .s]], [], [], [([.one (.b)], [])]⟩
noncomputable def m_value_May : List U → Rt
  | [.i v0, .i v1, .s v2] =>
    (.test (v0 == (0 : Int))
    (.stop 0 [.b (v0 == (0 : Int) && (v1 == (0 : Int) && (ByteArray.toList v2 == [] && true)))])
    (.test (v0 == (1 : Int))
    (.test (v1 == (0 : Int))
    (.stop 0 [.b (ByteArray.toList v2 == [])])
    (.test (v1 == (1 : Int))
    (.stop 0 [.b (ByteArray.toList v2 == [])])
    (.stop 0 [.b false])))
    (.test (v0 == (2 : Int))
    (.stop 0 [.b (ByteArray.toList v2 == [])])
    (.test (v0 == (3 : Int))
    (.test (v1 == (0 : Int))
    (.stop 0 [.b (decide ((↑(ByteArray.size v2) : Int) ≤ (1000 : Int)))])
    (.stop 0 [.b false]))
    (.stop 0 [.b false])))))
  | _ => .fail
set_option maxRecDepth 100000 in
theorem q_value_May (v0 : Int) (v1 : Int) (v2 : ByteArray) : callK br Try.prog X102 M_value_May L_value_May (lsT []) 60 55 (encs [.i v0, .i v1, .s v2] 0 S_value_May.ap) (encH [.i v0, .i v1, .s v2] (ws S_value_May.ap) S_value_May.ah) (fun y => fixR Try.prog S_value_May.plan S_value_May.ah.length y) =
    (m_value_May [.i v0, .i v1, .s v2]).go br (fun _ => none) S_value_May.fin := by
  rw [← callF_eq]; kernel_rfl
theorem e_value_May : EOK Try.prog 55 (gF S_value_May m_value_May) :=
  eokTold mixed named x102 (loopsOK_list rids noneIn) 60 S_value_May m_value_May (by
    intro us v h; unfold m_value_May at h; split at h
    · rename_i v0 v1 v2; exact q_value_May v0 v1 v2
    · cases h) false
noncomputable abbrev X103 : Ext := extT [(55, (gF S_value_May m_value_May))] X102
theorem x103 : XOK Try.prog X103 := xok1 x102 e_value_May

def L_row_May : FuncId → Nat → Option (List Nat) := liveT [(75, 2, [0, 1, 7, 8]), (75, 1000002, []), (75, 2000002, [4])]
def M_row_May : FuncId → Bool := fun _ => false
noncomputable def rd_row_May_75_2 : List U → Rt
  | [.l v0, .i v1, .i v2] =>
    (.test (decide (v2 < v1))
    (.test (inR v2 (ln v0))
    (let r0 : Rs := (Rt.res (m_value_May [U.i (cI (el v0 v2) 0), U.i (cI (el v0 v2) 1), U.s (cS (el v0 v2) 2)]))
    (.test (ok r0 0)
    (.test (!uB (out r0 0) 0)
    (.stop 0 [.i v2])
    (.next [.l v0, .i v1, .i (w64 (v2 + (1 : Int)))]))
    .fail))
    .fail)
    (.stop 1 []))
  | _ => .fail
def sp_row_May_75_2 : LSp := ⟨19, ⟨[(0, .one (.l 48)), (1, .fn 68 []), (7, .one (.i .i64)), (8, .one (.i .i64))], []⟩, [(.ret, ⟨[(4, .one (.i .i64))], []⟩), (.exit 0, ⟨[], []⟩)]⟩
set_option maxRecDepth 100000 in
theorem rq_row_May_75_2 (v0 : List (List PV)) (v1 : Int) (v2 : Int) : runK br Try.prog (callK br Try.prog X103 M_row_May L_row_May (lsT []) 40) M_row_May (lsT [] 75 0) 40 0 (L_row_May 75) (bodyOf Try.prog 75 2) (sp_row_May_75_2.s.ts sp_row_May_75_2.n [.l v0, .i v1, .i v2]) (sp_row_May_75_2.s.h [.l v0, .i v1, .i v2]) (idc Try.prog 0 (L_row_May 75) 2) =
    (rd_row_May_75_2 [.l v0, .i v1, .i v2]).go br (fun us' => some (.normal, sp_row_May_75_2.s.ts sp_row_May_75_2.n us', sp_row_May_75_2.s.h us')) sp_row_May_75_2.fin := by
  rw [← callF_eq, ← runF_eq]; kernel_rfl
theorem lo_row_May_75_2 {R : Type} : LoopTells Try.prog X103 M_row_May L_row_May 0 (L_row_May 75) (bodyOf Try.prog 75 2) (gL (R := R) sp_row_May_75_2 rd_row_May_75_2 br) :=
  loopTold (callK_ev (loopsOK_list rids noneIn) 40) (lsokIn (loopsOK_list rids noneIn) 75 0 2) (by kernel_rfl) sp_row_May_75_2 rd_row_May_75_2 rfl (by kernel_rfl) (by
    intro us v h; unfold rd_row_May_75_2 at h; split at h
    · rename_i v0 v1 v2; exact rq_row_May_75_2 v0 v1 v2
    · cases h)
noncomputable abbrev ll_row_May_75_2 {R : Type} : List (Nat × Nat × Nat × Smy R) := (75, 0, 2, gL sp_row_May_75_2 rd_row_May_75_2 br) :: []
theorem lk_row_May_75_2 {R : Type} : ∀ e ∈ ll_row_May_75_2 (R := R), LoopTells Try.prog X103 M_row_May L_row_May e.2.1 (L_row_May e.1) (bodyOf Try.prog e.1 e.2.2.1) e.2.2.2 := List.forall_mem_cons.2 ⟨lo_row_May_75_2, noneIn⟩
def S_row_May : FSp := ⟨[.one (.l 48)], [], [], [([.one (.b)], [])]⟩
noncomputable def m_row_May : List U → Rt
  | [.l v0] =>
    (.test (decide (ln v0 ≤ (40 : Int)))
    (let r0 : Rs := (lres rd_row_May_75_2 [U.l v0, U.i (ln v0), U.i (0 : Int)])
    (.test (ok r0 0)
    (.stop 0 [.b (!decide (uI (out r0 0) 0 ≥ (0 : Int)))])
    (.test (ok r0 1)
    (.stop 0 [.b true])
    .fail)))
    (.stop 0 [.b false]))
  | _ => .fail
set_option maxRecDepth 100000 in
theorem q_row_May (v0 : List (List PV)) : callK br Try.prog X103 M_row_May L_row_May (lsT ll_row_May_75_2) 60 51 (encs [.l v0] 0 S_row_May.ap) (encH [.l v0] (ws S_row_May.ap) S_row_May.ah) (fun y => fixR Try.prog S_row_May.plan S_row_May.ah.length y) =
    (m_row_May [.l v0]).go br (fun _ => none) S_row_May.fin := by
  rw [← callF_eq]; kernel_rfl
theorem e_row_May : EOK Try.prog 51 (gF S_row_May m_row_May) :=
  eokTold mixed named x103 (loopsOK_list rids lk_row_May_75_2) 60 S_row_May m_row_May (by
    intro us v h; unfold m_row_May at h; split at h
    · rename_i v0; exact q_row_May v0
    · cases h) false
noncomputable abbrev X104 : Ext := extT [(51, (gF S_row_May m_row_May))] X103
theorem x104 : XOK Try.prog X104 := xok1 x103 e_row_May

def L_bag_May : FuncId → Nat → Option (List Nat) := liveT [(33, 2, [0, 5, 6, 7]), (33, 1000002, []), (33, 2000002, [2])]
def M_bag_May : FuncId → Bool := fun _ => false
noncomputable def rd_bag_May_33_2 : List U → Rt
  | [.l v0, .l v1, .i v2, .i v3] =>
    (.test (decide (v3 < v2))
    (.test (inR v3 (ln v1))
    (.test (cI (el v1 v3) 1 == (0 : Int))
    (.stop 0 [.b false])
    (let r0 : Rs := (Rt.res (m_bag_fits [U.i (cI (el v1 v3) 1)]))
    (.test (ok r0 0)
    (.test (!uB (out r0 0) 0)
    (.stop 0 [.b false])
    (let r1 : Rs := (Rt.res (m_row_May [U.l (cL (el v1 v3) 0)]))
    (.test (ok r1 0)
    (.test (!uB (out r1 0) 0)
    (.stop 0 [.b false])
    (.test (decide (v3 > (0 : Int)))
    (.test (inR (w64 (v3 - (1 : Int))) (ln v0))
    (let r2 : Rs := (Rt.res (m_row_Compare [U.l (cL (el v0 (w64 (v3 - (1 : Int)))) 0), U.l (cL (el v1 v3) 0)]))
    (.test (ok r2 0)
    (.test (decide (uI (out r2 0) 0 ≥ (0 : Int)))
    (.stop 0 [.b false])
    (.next [.l v0, .l v1, .i v2, .i (w64 (v3 + (1 : Int)))]))
    .fail))
    .fail)
    (.next [.l v0, .l v1, .i v2, .i (w64 (v3 + (1 : Int)))])))
    .fail)))
    .fail)))
    .fail)
    (.stop 1 []))
  | _ => .fail
def sp_bag_May_33_2 : LSp := ⟨44, ⟨[(0, .one (.l 46)), (5, .one (.l 46)), (6, .one (.i .i64)), (7, .one (.i .i64))], []⟩, [(.ret, ⟨[(2, .one (.b))], []⟩), (.exit 0, ⟨[], []⟩)]⟩
set_option maxRecDepth 100000 in
theorem rq_bag_May_33_2 (v0 : List (List PV)) (v1 : List (List PV)) (v2 : Int) (v3 : Int) : runK br Try.prog (callK br Try.prog X104 M_bag_May L_bag_May (lsT []) 40) M_bag_May (lsT [] 33 0) 40 0 (L_bag_May 33) (bodyOf Try.prog 33 2) (sp_bag_May_33_2.s.ts sp_bag_May_33_2.n [.l v0, .l v1, .i v2, .i v3]) (sp_bag_May_33_2.s.h [.l v0, .l v1, .i v2, .i v3]) (idc Try.prog 0 (L_bag_May 33) 2) =
    (rd_bag_May_33_2 [.l v0, .l v1, .i v2, .i v3]).go br (fun us' => some (.normal, sp_bag_May_33_2.s.ts sp_bag_May_33_2.n us', sp_bag_May_33_2.s.h us')) sp_bag_May_33_2.fin := by
  rw [← callF_eq, ← runF_eq]; kernel_rfl
theorem lo_bag_May_33_2 {R : Type} : LoopTells Try.prog X104 M_bag_May L_bag_May 0 (L_bag_May 33) (bodyOf Try.prog 33 2) (gL (R := R) sp_bag_May_33_2 rd_bag_May_33_2 br) :=
  loopTold (callK_ev (loopsOK_list rids noneIn) 40) (lsokIn (loopsOK_list rids noneIn) 33 0 2) (by kernel_rfl) sp_bag_May_33_2 rd_bag_May_33_2 rfl (by kernel_rfl) (by
    intro us v h; unfold rd_bag_May_33_2 at h; split at h
    · rename_i v0 v1 v2 v3; exact rq_bag_May_33_2 v0 v1 v2 v3
    · cases h)
noncomputable abbrev ll_bag_May_33_2 {R : Type} : List (Nat × Nat × Nat × Smy R) := (33, 0, 2, gL sp_bag_May_33_2 rd_bag_May_33_2 br) :: []
theorem lk_bag_May_33_2 {R : Type} : ∀ e ∈ ll_bag_May_33_2 (R := R), LoopTells Try.prog X104 M_bag_May L_bag_May e.2.1 (L_bag_May e.1) (bodyOf Try.prog e.1 e.2.2.1) e.2.2.2 := List.forall_mem_cons.2 ⟨lo_bag_May_33_2, noneIn⟩
def S_bag_May : FSp := ⟨[.one (.l 46)], [], [], [([.one (.b)], [])]⟩
noncomputable def m_bag_May : List U → Rt
  | [.l v0] =>
    (let r0 : Rs := (lres rd_bag_May_33_2 [U.l v0, U.l v0, U.i (ln v0), U.i (0 : Int)])
    (.test (ok r0 0)
    (.stop 0 [.b (uB (out r0 0) 0)])
    (.test (ok r0 1)
    (.stop 0 [.b true])
    .fail)))
  | _ => .fail
set_option maxRecDepth 100000 in
theorem q_bag_May (v0 : List (List PV)) : callK br Try.prog X104 M_bag_May L_bag_May (lsT ll_bag_May_33_2) 60 33 (encs [.l v0] 0 S_bag_May.ap) (encH [.l v0] (ws S_bag_May.ap) S_bag_May.ah) (fun y => fixR Try.prog S_bag_May.plan S_bag_May.ah.length y) =
    (m_bag_May [.l v0]).go br (fun _ => none) S_bag_May.fin := by
  rw [← callF_eq]; kernel_rfl
theorem e_bag_May : EOK Try.prog 33 (gF S_bag_May m_bag_May) :=
  eokTold mixed named x104 (loopsOK_list rids lk_bag_May_33_2) 60 S_bag_May m_bag_May (by
    intro us v h; unfold m_bag_May at h; split at h
    · rename_i v0; exact q_bag_May v0
    · cases h) false
noncomputable abbrev X105 : Ext := extT [(33, (gF S_bag_May m_bag_May))] X104
theorem x105 : XOK Try.prog X105 := xok1 x104 e_bag_May

def L_bag_Plus : FuncId → Nat → Option (List Nat) := liveT [(34, 3, [93000003, 7, 8, 9]), (34, 1000003, [3]), (34, 2000003, [2]), (70, 2, [0, 1, 7, 8]), (70, 1000002, []), (70, 2000002, [4])]
def M_bag_Plus : FuncId → Bool := fun _ => false
noncomputable def rd_bag_Plus_34_3 : List U → Rt
  | [.l v0, .i v1, .i v2, .l v3] =>
    (.test (decide (v2 < v1))
    (.test (inR v2 (ln v0))
    (let r0 : Rs := (Rt.res (m_bag_May [U.l (cL (el v0 v2) 0)]))
    (.test (ok r0 0)
    (.test (!uB (out r0 0) 0)
    (.stop 0 [])
    (.test (decide ((List.length v3 + List.length (cL (el v0 v2) 0)) * 32 ≤ 140737488355328))
    (.next [.l v0, .i v1, .i (w64 (v2 + (1 : Int))), .l (v3 ++ cL (el v0 v2) 0)])
    .fail))
    .fail))
    .fail)
    (.stop 1 [.l v3]))
  | _ => .fail
def sp_bag_Plus_34_3 : LSp := ⟨25, ⟨[(3, .one (.all 0)), (7, .one (.l 30)), (8, .one (.i .i64)), (9, .one (.i .i64))], [.arr 46 true]⟩, [(.ret, ⟨[(2, .one (.nils))], []⟩), (.exit 0, ⟨[(3, .one (.all 0))], [.arr 46 true]⟩)]⟩
set_option maxRecDepth 100000 in
theorem rq_bag_Plus_34_3 (v0 : List (List PV)) (v1 : Int) (v2 : Int) (v3 : List (List PV)) : runK br Try.prog (callK br Try.prog X105 M_bag_Plus L_bag_Plus (lsT []) 40) M_bag_Plus (lsT [] 34 0) 40 0 (L_bag_Plus 34) (bodyOf Try.prog 34 3) (sp_bag_Plus_34_3.s.ts sp_bag_Plus_34_3.n [.l v0, .i v1, .i v2, .l v3]) (sp_bag_Plus_34_3.s.h [.l v0, .i v1, .i v2, .l v3]) (idc Try.prog 0 (L_bag_Plus 34) 3) =
    (rd_bag_Plus_34_3 [.l v0, .i v1, .i v2, .l v3]).go br (fun us' => some (.normal, sp_bag_Plus_34_3.s.ts sp_bag_Plus_34_3.n us', sp_bag_Plus_34_3.s.h us')) sp_bag_Plus_34_3.fin := by
  rw [← callF_eq, ← runF_eq]; kernel_rfl
theorem lo_bag_Plus_34_3 {R : Type} : LoopTells Try.prog X105 M_bag_Plus L_bag_Plus 0 (L_bag_Plus 34) (bodyOf Try.prog 34 3) (gL (R := R) sp_bag_Plus_34_3 rd_bag_Plus_34_3 br) :=
  loopTold (callK_ev (loopsOK_list rids noneIn) 40) (lsokIn (loopsOK_list rids noneIn) 34 0 3) (by kernel_rfl) sp_bag_Plus_34_3 rd_bag_Plus_34_3 rfl (by kernel_rfl) (by
    intro us v h; unfold rd_bag_Plus_34_3 at h; split at h
    · rename_i v0 v1 v2 v3; exact rq_bag_Plus_34_3 v0 v1 v2 v3
    · cases h)
noncomputable abbrev ll_bag_Plus_34_3 {R : Type} : List (Nat × Nat × Nat × Smy R) := (34, 0, 3, gL sp_bag_Plus_34_3 rd_bag_Plus_34_3 br) :: []
theorem lk_bag_Plus_34_3 {R : Type} : ∀ e ∈ ll_bag_Plus_34_3 (R := R), LoopTells Try.prog X105 M_bag_Plus L_bag_Plus e.2.1 (L_bag_Plus e.1) (bodyOf Try.prog e.1 e.2.2.1) e.2.2.2 := List.forall_mem_cons.2 ⟨lo_bag_Plus_34_3, noneIn⟩
noncomputable def rd_bag_Plus_70_2 : List U → Rt
  | [.l v0, .i v1, .i v2] =>
    (.test (decide (v2 < v1))
    (.test (inR v2 (ln v0))
    (let r0 : Rs := (Rt.res (m_bag_fits [U.i (cI (el v0 v2) 1)]))
    (.test (ok r0 0)
    (.test (!uB (out r0 0) 0)
    (.stop 0 [.i v2])
    (.next [.l v0, .i v1, .i (w64 (v2 + (1 : Int)))]))
    .fail))
    .fail)
    (.stop 1 []))
  | _ => .fail
def sp_bag_Plus_70_2 : LSp := ⟨19, ⟨[(0, .one (.l 46)), (1, .fn 54 []), (7, .one (.i .i64)), (8, .one (.i .i64))], []⟩, [(.ret, ⟨[(4, .one (.i .i64))], []⟩), (.exit 0, ⟨[], []⟩)]⟩
set_option maxRecDepth 100000 in
theorem rq_bag_Plus_70_2 (v0 : List (List PV)) (v1 : Int) (v2 : Int) : runK br Try.prog (callK br Try.prog X105 M_bag_Plus L_bag_Plus (lsT ll_bag_Plus_34_3) 40) M_bag_Plus (lsT ll_bag_Plus_34_3 70 0) 40 0 (L_bag_Plus 70) (bodyOf Try.prog 70 2) (sp_bag_Plus_70_2.s.ts sp_bag_Plus_70_2.n [.l v0, .i v1, .i v2]) (sp_bag_Plus_70_2.s.h [.l v0, .i v1, .i v2]) (idc Try.prog 0 (L_bag_Plus 70) 2) =
    (rd_bag_Plus_70_2 [.l v0, .i v1, .i v2]).go br (fun us' => some (.normal, sp_bag_Plus_70_2.s.ts sp_bag_Plus_70_2.n us', sp_bag_Plus_70_2.s.h us')) sp_bag_Plus_70_2.fin := by
  rw [← callF_eq, ← runF_eq]; kernel_rfl
theorem lo_bag_Plus_70_2 {R : Type} : LoopTells Try.prog X105 M_bag_Plus L_bag_Plus 0 (L_bag_Plus 70) (bodyOf Try.prog 70 2) (gL (R := R) sp_bag_Plus_70_2 rd_bag_Plus_70_2 br) :=
  loopTold (callK_ev (loopsOK_list rids lk_bag_Plus_34_3) 40) (lsokIn (loopsOK_list rids lk_bag_Plus_34_3) 70 0 2) (by kernel_rfl) sp_bag_Plus_70_2 rd_bag_Plus_70_2 rfl (by kernel_rfl) (by
    intro us v h; unfold rd_bag_Plus_70_2 at h; split at h
    · rename_i v0 v1 v2; exact rq_bag_Plus_70_2 v0 v1 v2
    · cases h)
noncomputable abbrev ll_bag_Plus_70_2 {R : Type} : List (Nat × Nat × Nat × Smy R) := (70, 0, 2, gL sp_bag_Plus_70_2 rd_bag_Plus_70_2 br) :: ll_bag_Plus_34_3
theorem lk_bag_Plus_70_2 {R : Type} : ∀ e ∈ ll_bag_Plus_70_2 (R := R), LoopTells Try.prog X105 M_bag_Plus L_bag_Plus e.2.1 (L_bag_Plus e.1) (bodyOf Try.prog e.1 e.2.2.1) e.2.2.2 := List.forall_mem_cons.2 ⟨lo_bag_Plus_70_2, lk_bag_Plus_34_3⟩
def S_bag_Plus : FSp := ⟨[.one (.l 30)], [], [93000000], [([.one (.all 0)], [.arr 46 true])]⟩
noncomputable def m_bag_Plus : List U → Rt
  | [.l v0] =>
    (let r0 : Rs := (lres rd_bag_Plus_34_3 [U.l v0, U.i (ln v0), U.i (0 : Int), U.l []])
    (.test (ok r0 0)
    (.stop 0 [.l []])
    (.test (ok r0 1)
    (let r1 : Rs := (Rt.res (m_bag_Sum [U.l (uL (out r0 1) 0)]))
    (.test (ok r1 0)
    (let r2 : Rs := (lres rd_bag_Plus_70_2 [U.l (uL (out r1 0) 0), U.i (ln (uL (out r1 0) 0)), U.i (0 : Int)])
    (.test (ok r2 0)
    (.test (decide (uI (out r2 0) 0 ≥ (0 : Int)))
    (.stop 0 [.l []])
    (.stop 0 [.l (uL (out r1 0) 0)]))
    (.test (ok r2 1)
    (.stop 0 [.l (uL (out r1 0) 0)])
    .fail)))
    .fail))
    .fail)))
  | _ => .fail
set_option maxRecDepth 100000 in
theorem q_bag_Plus (v0 : List (List PV)) : callK br Try.prog X105 M_bag_Plus L_bag_Plus (lsT ll_bag_Plus_70_2) 60 34 (encs [.l v0] 0 S_bag_Plus.ap) (encH [.l v0] (ws S_bag_Plus.ap) S_bag_Plus.ah) (fun y => fixR Try.prog S_bag_Plus.plan S_bag_Plus.ah.length y) =
    (m_bag_Plus [.l v0]).go br (fun _ => none) S_bag_Plus.fin := by
  rw [← callF_eq]; kernel_rfl
theorem e_bag_Plus : EOK Try.prog 34 (gF S_bag_Plus m_bag_Plus) :=
  eokTold mixed named x105 (loopsOK_list rids lk_bag_Plus_70_2) 60 S_bag_Plus m_bag_Plus (by
    intro us v h; unfold m_bag_Plus at h; split at h
    · rename_i v0; exact q_bag_Plus v0
    · cases h) false
noncomputable abbrev X106 : Ext := extT [(34, (gF S_bag_Plus m_bag_Plus))] X105
theorem x106 : XOK Try.prog X106 := xok1 x105 e_bag_Plus

def L_query_at : FuncId → Nat → Option (List Nat) := liveT []
def M_query_at : FuncId → Bool := fun _ => false
def S_query_at : FSp := ⟨[.one (.l 48), .one (.i .i64)], [], [], [([.agg [.i .i64, .i .i64, .s]], [])]⟩
noncomputable def m_query_at : List U → Rt
  | [.l v0, .i v1] =>
    (.test (decide (v1 < (0 : Int)))
    (.stop 0 [.i ((0 : Int)), .i ((0 : Int)), .s ({ data := #[] })])
    (.test (decide (v1 ≥ ln v0))
    (.stop 0 [.i ((0 : Int)), .i ((0 : Int)), .s ({ data := #[] })])
    (.test (inR v1 (ln v0))
    (.stop 0 [.i (cI (el v0 v1) 0), .i (cI (el v0 v1) 1), .s (cS (el v0 v1) 2)])
    .fail)))
  | _ => .fail
set_option maxRecDepth 100000 in
theorem q_query_at (v0 : List (List PV)) (v1 : Int) : callK br Try.prog X106 M_query_at L_query_at (lsT []) 60 36 (encs [.l v0, .i v1] 0 S_query_at.ap) (encH [.l v0, .i v1] (ws S_query_at.ap) S_query_at.ah) (fun y => fixR Try.prog S_query_at.plan S_query_at.ah.length y) =
    (m_query_at [.l v0, .i v1]).go br (fun _ => none) S_query_at.fin := by
  rw [← callF_eq]; kernel_rfl
theorem e_query_at : EOK Try.prog 36 (gF S_query_at m_query_at) :=
  eokTold mixed named x106 (loopsOK_list rids noneIn) 60 S_query_at m_query_at (by
    intro us v h; unfold m_query_at at h; split at h
    · rename_i v0 v1; exact q_query_at v0 v1
    · cases h) false
noncomputable abbrev X107 : Ext := extT [(36, (gF S_query_at m_query_at))] X106
theorem x107 : XOK Try.prog X107 := xok1 x106 e_query_at

def L_key_Encode : FuncId → Nat → Option (List Nat) := liveT [(37, 3, [11000003, 6, 7, 8]), (37, 1000003, [3]), (37, 2000003, [2]), (56, 8, [0, 5, 31]), (56, 1000008, [0]), (56, 2000008, [4]), (56, 14, [0, 3, 48, 49]), (56, 1000014, [0]), (56, 2000014, [4])]
def M_key_Encode : FuncId → Bool := fun f => f == 56
noncomputable def rd_key_Encode_56_8 : List U → Rt
  | [.i v0, .i v1, .l v2] =>
    (.test (decide (v1 < (8 : Int)))
    (.test (decide (w64 ((8 : Int) * w64 ((7 : Int) - v1)) < (0 : Int)))
    .fail
    (.test (decide ((List.length v2 + 1) * 1 ≤ 140737488355328))
    (.next [.i v0, .i (w64 (v1 + (1 : Int))), .l (v2 ++ [[PV.int IntKind.u8 (IntKind.wrap IntKind.u8 (Int.fdiv v0 ((2 : Int) ^ min (Int.toNat (w64 ((8 : Int) * w64 ((7 : Int) - v1)))) 64)))]])])
    .fail))
    (.stop 0 [.l v2]))
  | _ => .fail
def sp_key_Encode_56_8 : LSp := ⟨71, ⟨[(0, .one (.all 1)), (5, .one (.i .u64)), (31, .one (.i .i64))], [.dead, .arr 5 true]⟩, [(.exit 1, ⟨[(0, .one (.all 1))], [.dead, .arr 5 true]⟩)]⟩
set_option maxRecDepth 100000 in
theorem rq_key_Encode_56_8 (v0 : Int) (v1 : Int) (v2 : List (List PV)) : runK br Try.prog (callK br Try.prog X107 M_key_Encode L_key_Encode (lsT []) 40) M_key_Encode (lsT [] 56 1) 40 1 (L_key_Encode 56) (bodyOf Try.prog 56 8) (sp_key_Encode_56_8.s.ts sp_key_Encode_56_8.n [.i v0, .i v1, .l v2]) (sp_key_Encode_56_8.s.h [.i v0, .i v1, .l v2]) (idc Try.prog 1 (L_key_Encode 56) 8) =
    (rd_key_Encode_56_8 [.i v0, .i v1, .l v2]).go br (fun us' => some (.normal, sp_key_Encode_56_8.s.ts sp_key_Encode_56_8.n us', sp_key_Encode_56_8.s.h us')) sp_key_Encode_56_8.fin := by
  rw [← callF_eq, ← runF_eq]; kernel_rfl
theorem lo_key_Encode_56_8 {R : Type} : LoopTells Try.prog X107 M_key_Encode L_key_Encode 1 (L_key_Encode 56) (bodyOf Try.prog 56 8) (gL (R := R) sp_key_Encode_56_8 rd_key_Encode_56_8 br) :=
  loopTold (callK_ev (loopsOK_list rids noneIn) 40) (lsokIn (loopsOK_list rids noneIn) 56 1 8) (by kernel_rfl) sp_key_Encode_56_8 rd_key_Encode_56_8 rfl (by kernel_rfl) (by
    intro us v h; unfold rd_key_Encode_56_8 at h; split at h
    · rename_i v0 v1 v2; exact rq_key_Encode_56_8 v0 v1 v2
    · cases h)
noncomputable abbrev ll_key_Encode_56_8 {R : Type} : List (Nat × Nat × Nat × Smy R) := (56, 1, 8, gL sp_key_Encode_56_8 rd_key_Encode_56_8 br) :: []
theorem lk_key_Encode_56_8 {R : Type} : ∀ e ∈ ll_key_Encode_56_8 (R := R), LoopTells Try.prog X107 M_key_Encode L_key_Encode e.2.1 (L_key_Encode e.1) (bodyOf Try.prog e.1 e.2.2.1) e.2.2.2 := List.forall_mem_cons.2 ⟨lo_key_Encode_56_8, noneIn⟩
noncomputable def rd_key_Encode_56_14 : List U → Rt
  | [.i v0, .i v1, .l v2, .i v3, .i v4, .s v5] =>
    (.test (decide (v1 < v0))
    (.test (inR v1 (↑(ByteArray.size v5) : Int))
    (.test (decide ((List.length v2 + 1) * 1 ≤ 140737488355328))
    (.test (inR v1 (↑(ByteArray.size v5) : Int))
    (.test ((↑(UInt8.toNat (List.getD (Array.toList (ByteArray.data v5)) (Int.toNat v1) (0 : UInt8))) : Int) == (0 : Int))
    (.test (decide ((List.length (v2 ++ [[PV.int IntKind.u8 (↑(UInt8.toNat (List.getD (Array.toList (ByteArray.data v5)) (Int.toNat v1) (0 : UInt8))) : Int)]]) + 1) * 1 ≤ 140737488355328))
    (.next [.i v0, .i (w64 (v1 + (1 : Int))), .l (v2 ++ [[PV.int IntKind.u8 (↑(UInt8.toNat (List.getD (Array.toList (ByteArray.data v5)) (Int.toNat v1) (0 : UInt8))) : Int)]] ++ [[PV.int IntKind.u8 (255 : Int)]]), .i v3, .i v4, .s v5])
    .fail)
    (.next [.i v0, .i (w64 (v1 + (1 : Int))), .l (v2 ++ [[PV.int IntKind.u8 (↑(UInt8.toNat (List.getD (Array.toList (ByteArray.data v5)) (Int.toNat v1) (0 : UInt8))) : Int)]]), .i v3, .i v4, .s v5]))
    .fail)
    .fail)
    .fail)
    (.stop 0 [.l v2]))
  | _ => .fail
def sp_key_Encode_56_14 : LSp := ⟨71, ⟨[(0, .one (.all 1)), (3, .one (.ptr 2 0)), (48, .one (.i .i64)), (49, .one (.i .i64))], [.dead, .arr 5 true, .box 48 [.one (.i .i64), .one (.i .i64), .one (.s)]]⟩, [(.exit 3, ⟨[(0, .one (.all 1))], [.dead, .arr 5 true]⟩)]⟩
set_option maxRecDepth 100000 in
theorem rq_key_Encode_56_14 (v0 : Int) (v1 : Int) (v2 : List (List PV)) (v3 : Int) (v4 : Int) (v5 : ByteArray) : runK br Try.prog (callK br Try.prog X107 M_key_Encode L_key_Encode (lsT ll_key_Encode_56_8) 40) M_key_Encode (lsT ll_key_Encode_56_8 56 1) 40 1 (L_key_Encode 56) (bodyOf Try.prog 56 14) (sp_key_Encode_56_14.s.ts sp_key_Encode_56_14.n [.i v0, .i v1, .l v2, .i v3, .i v4, .s v5]) (sp_key_Encode_56_14.s.h [.i v0, .i v1, .l v2, .i v3, .i v4, .s v5]) (idc Try.prog 1 (L_key_Encode 56) 14) =
    (rd_key_Encode_56_14 [.i v0, .i v1, .l v2, .i v3, .i v4, .s v5]).go br (fun us' => some (.normal, sp_key_Encode_56_14.s.ts sp_key_Encode_56_14.n us', sp_key_Encode_56_14.s.h us')) sp_key_Encode_56_14.fin := by
  rw [← callF_eq, ← runF_eq]; kernel_rfl
theorem lo_key_Encode_56_14 {R : Type} : LoopTells Try.prog X107 M_key_Encode L_key_Encode 1 (L_key_Encode 56) (bodyOf Try.prog 56 14) (gL (R := R) sp_key_Encode_56_14 rd_key_Encode_56_14 br) :=
  loopTold (callK_ev (loopsOK_list rids lk_key_Encode_56_8) 40) (lsokIn (loopsOK_list rids lk_key_Encode_56_8) 56 1 14) (by kernel_rfl) sp_key_Encode_56_14 rd_key_Encode_56_14 rfl (by kernel_rfl) (by
    intro us v h; unfold rd_key_Encode_56_14 at h; split at h
    · rename_i v0 v1 v2 v3 v4 v5; exact rq_key_Encode_56_14 v0 v1 v2 v3 v4 v5
    · cases h)
noncomputable abbrev ll_key_Encode_56_14 {R : Type} : List (Nat × Nat × Nat × Smy R) := (56, 1, 14, gL sp_key_Encode_56_14 rd_key_Encode_56_14 br) :: ll_key_Encode_56_8
theorem lk_key_Encode_56_14 {R : Type} : ∀ e ∈ ll_key_Encode_56_14 (R := R), LoopTells Try.prog X107 M_key_Encode L_key_Encode e.2.1 (L_key_Encode e.1) (bodyOf Try.prog e.1 e.2.2.1) e.2.2.2 := List.forall_mem_cons.2 ⟨lo_key_Encode_56_14, lk_key_Encode_56_8⟩
noncomputable def rd_key_Encode_37_3 : List U → Rt
  | [.l v0, .i v1, .i v2, .l v3] =>
    (.test (decide (v2 < v1))
    (.test (inR v2 (ln v0))
    (let r0 : Rs := (Rt.res (m_value_May [U.i (cI (el v0 v2) 0), U.i (cI (el v0 v2) 1), U.s (cS (el v0 v2) 2)]))
    (.test (ok r0 0)
    (.test (!uB (out r0 0) 0)
    (.stop 0 [.s ({ data := #[] })])
    (.test (decide ((List.length v3 + 1) * 1 ≤ 140737488355328))
    (.test (cI (el v0 v2) 0 == (1 : Int))
    (.test (decide ((List.length (v3 ++ [[PV.int IntKind.u8 (IntKind.wrap IntKind.u8 (w64 (cI (el v0 v2) 0 + (1 : Int))))]]) + 1) * 1 ≤ 140737488355328))
    (.next [.l v0, .i v1, .i (w64 (v2 + (1 : Int))), .l (v3 ++ [[PV.int IntKind.u8 (IntKind.wrap IntKind.u8 (w64 (cI (el v0 v2) 0 + (1 : Int))))]] ++ [[PV.int IntKind.u8 (IntKind.wrap IntKind.u8 (cI (el v0 v2) 1))]])])
    .fail)
    (.test (cI (el v0 v2) 0 == (2 : Int))
    (let r1 : Rs := (lres rd_key_Encode_56_8 [U.i (IntKind.wrap IntKind.u64 (IntKind.wrap IntKind.u64 (cI (el v0 v2) 1) + (9223372036854775808 : Int))), U.i (0 : Int), U.l (v3 ++ [[PV.int IntKind.u8 (IntKind.wrap IntKind.u8 (w64 (cI (el v0 v2) 0 + (1 : Int))))]])])
    (.test (ok r1 0)
    (.next [.l v0, .i v1, .i (w64 (v2 + (1 : Int))), .l (uL (out r1 0) 0)])
    .fail))
    (.test (cI (el v0 v2) 0 == (3 : Int))
    (let r2 : Rs := (lres rd_key_Encode_56_14 [U.i (↑(ByteArray.size (cS (el v0 v2) 2)) : Int), U.i (0 : Int), U.l (v3 ++ [[PV.int IntKind.u8 (IntKind.wrap IntKind.u8 (w64 (cI (el v0 v2) 0 + (1 : Int))))]]), U.i (cI (el v0 v2) 0), U.i (cI (el v0 v2) 1), U.s (cS (el v0 v2) 2)])
    (.test (ok r2 0)
    (.test (decide ((List.length (uL (out r2 0) 0) + 2) * 1 ≤ 140737488355328))
    (.next [.l v0, .i v1, .i (w64 (v2 + (1 : Int))), .l (uL (out r2 0) 0 ++ [[PV.int IntKind.u8 (0 : Int)], [PV.int IntKind.u8 (1 : Int)]])])
    .fail)
    .fail))
    (.next [.l v0, .i v1, .i (w64 (v2 + (1 : Int))), .l (v3 ++ [[PV.int IntKind.u8 (IntKind.wrap IntKind.u8 (w64 (cI (el v0 v2) 0 + (1 : Int))))]])]))))
    .fail))
    .fail))
    .fail)
    (.stop 1 [.l v3]))
  | _ => .fail
def sp_key_Encode_37_3 : LSp := ⟨21, ⟨[(3, .one (.all 0)), (6, .one (.l 48)), (7, .one (.i .i64)), (8, .one (.i .i64))], [.arr 5 true]⟩, [(.ret, ⟨[(2, .one (.s))], []⟩), (.exit 0, ⟨[(3, .one (.all 0))], [.arr 5 true]⟩)]⟩
set_option maxRecDepth 100000 in
theorem rq_key_Encode_37_3 (v0 : List (List PV)) (v1 : Int) (v2 : Int) (v3 : List (List PV)) : runK br Try.prog (callK br Try.prog X107 M_key_Encode L_key_Encode (lsT ll_key_Encode_56_14) 40) M_key_Encode (lsT ll_key_Encode_56_14 37 0) 40 0 (L_key_Encode 37) (bodyOf Try.prog 37 3) (sp_key_Encode_37_3.s.ts sp_key_Encode_37_3.n [.l v0, .i v1, .i v2, .l v3]) (sp_key_Encode_37_3.s.h [.l v0, .i v1, .i v2, .l v3]) (idc Try.prog 0 (L_key_Encode 37) 3) =
    (rd_key_Encode_37_3 [.l v0, .i v1, .i v2, .l v3]).go br (fun us' => some (.normal, sp_key_Encode_37_3.s.ts sp_key_Encode_37_3.n us', sp_key_Encode_37_3.s.h us')) sp_key_Encode_37_3.fin := by
  rw [← callF_eq, ← runF_eq]; kernel_rfl
theorem lo_key_Encode_37_3 {R : Type} : LoopTells Try.prog X107 M_key_Encode L_key_Encode 0 (L_key_Encode 37) (bodyOf Try.prog 37 3) (gL (R := R) sp_key_Encode_37_3 rd_key_Encode_37_3 br) :=
  loopTold (callK_ev (loopsOK_list rids lk_key_Encode_56_14) 40) (lsokIn (loopsOK_list rids lk_key_Encode_56_14) 37 0 3) (by kernel_rfl) sp_key_Encode_37_3 rd_key_Encode_37_3 rfl (by kernel_rfl) (by
    intro us v h; unfold rd_key_Encode_37_3 at h; split at h
    · rename_i v0 v1 v2 v3; exact rq_key_Encode_37_3 v0 v1 v2 v3
    · cases h)
noncomputable abbrev ll_key_Encode_37_3 {R : Type} : List (Nat × Nat × Nat × Smy R) := (37, 0, 3, gL sp_key_Encode_37_3 rd_key_Encode_37_3 br) :: ll_key_Encode_56_14
theorem lk_key_Encode_37_3 {R : Type} : ∀ e ∈ ll_key_Encode_37_3 (R := R), LoopTells Try.prog X107 M_key_Encode L_key_Encode e.2.1 (L_key_Encode e.1) (bodyOf Try.prog e.1 e.2.2.1) e.2.2.2 := List.forall_mem_cons.2 ⟨lo_key_Encode_37_3, lk_key_Encode_56_14⟩
def S_key_Encode : FSp := ⟨[.one (.l 48)], [], [], [([.one (.s)], [])]⟩
noncomputable def m_key_Encode : List U → Rt
  | [.l v0] =>
    (let r0 : Rs := (lres rd_key_Encode_37_3 [U.l v0, U.i (ln v0), U.i (0 : Int), U.l []])
    (.test (ok r0 0)
    (.stop 0 [.s (uS (out r0 0) 0)])
    (.test (ok r0 1)
    (.stop 0 [.s (strOf (uL (out r0 1) 0))])
    .fail)))
  | _ => .fail
set_option maxRecDepth 100000 in
theorem q_key_Encode (v0 : List (List PV)) : callK br Try.prog X107 M_key_Encode L_key_Encode (lsT ll_key_Encode_37_3) 60 37 (encs [.l v0] 0 S_key_Encode.ap) (encH [.l v0] (ws S_key_Encode.ap) S_key_Encode.ah) (fun y => fixR Try.prog S_key_Encode.plan S_key_Encode.ah.length y) =
    (m_key_Encode [.l v0]).go br (fun _ => none) S_key_Encode.fin := by
  rw [← callF_eq]; kernel_rfl
theorem e_key_Encode : EOK Try.prog 37 (gF S_key_Encode m_key_Encode) :=
  eokTold mixed named x107 (loopsOK_list rids lk_key_Encode_37_3) 60 S_key_Encode m_key_Encode (by
    intro us v h; unfold m_key_Encode at h; split at h
    · rename_i v0; exact q_key_Encode v0
    · cases h) false
noncomputable abbrev X108 : Ext := extT [(37, (gF S_key_Encode m_key_Encode))] X107
theorem x108 : XOK Try.prog X108 := xok1 x107 e_key_Encode

def L_query_index : FuncId → Nat → Option (List Nat) := liveT [(35, 3, [1, 5, 11, 12, 13]), (35, 1000003, [5]), (35, 2000003, [4])]
def M_query_index : FuncId → Bool := fun _ => false
noncomputable def rd_query_index_35_3 : List U → Rt
  | [.i v0, .l v1, .i v2, .i v3, .l v4] =>
    (.test (decide (v3 < v2))
    (.test (inR v3 (ln v1))
    (let r0 : Rs := (Rt.res (m_query_at [U.l (cL (el v1 v3) 0), U.i v0]))
    (.test (ok r0 0)
    (.test (uI (out r0 0) 0 != (0 : Int))
    (let r1 : Rs := (Rt.res (m_key_Encode [U.l [[pI (uI (out r0 0) 0), pI (uI (out r0 0) 1), pS (uS (out r0 0) 2)]]]))
    (.test (ok r1 0)
    (.test (decide ((List.length (lkM v4 (uS (out r1 0) 0)) + 1) * 32 ≤ 140737488355328))
    (.test (decide (uS (out r1 0) 0 = uS (out r1 0) 0))
    (.next [.i v0, .l v1, .i v2, .i (w64 (v3 + (1 : Int))), .l (putM v4 (uS (out r1 0) 0) (PV.lst 46 (lkM v4 (uS (out r1 0) 0) ++ [[PV.lst 48 (cL (el v1 v3) 0), pI (cI (el v1 v3) 1)]])))])
    .fail)
    .fail)
    .fail))
    (.next [.i v0, .l v1, .i v2, .i (w64 (v3 + (1 : Int))), .l v4]))
    .fail))
    .fail)
    (.stop 0 [.l v4]))
  | _ => .fail
def sp_query_index_35_3 : LSp := ⟨37, ⟨[(1, .one (.i .i64)), (5, .one (.mp 0)), (11, .one (.l 46)), (12, .one (.i .i64)), (13, .one (.i .i64))], [.map 29 false]⟩, [(.exit 0, ⟨[(5, .one (.mp 0))], [.map 29 false]⟩)]⟩
set_option maxRecDepth 100000 in
theorem rq_query_index_35_3 (v0 : Int) (v1 : List (List PV)) (v2 : Int) (v3 : Int) (v4 : List (List PV)) : runK br Try.prog (callK br Try.prog X108 M_query_index L_query_index (lsT []) 40) M_query_index (lsT [] 35 0) 40 0 (L_query_index 35) (bodyOf Try.prog 35 3) (sp_query_index_35_3.s.ts sp_query_index_35_3.n [.i v0, .l v1, .i v2, .i v3, .l v4]) (sp_query_index_35_3.s.h [.i v0, .l v1, .i v2, .i v3, .l v4]) (idc Try.prog 0 (L_query_index 35) 3) =
    (rd_query_index_35_3 [.i v0, .l v1, .i v2, .i v3, .l v4]).go br (fun us' => some (.normal, sp_query_index_35_3.s.ts sp_query_index_35_3.n us', sp_query_index_35_3.s.h us')) sp_query_index_35_3.fin := by
  rw [← callF_eq, ← runF_eq]; kernel_rfl
theorem lo_query_index_35_3 {R : Type} : LoopTells Try.prog X108 M_query_index L_query_index 0 (L_query_index 35) (bodyOf Try.prog 35 3) (gL (R := R) sp_query_index_35_3 rd_query_index_35_3 br) :=
  loopTold (callK_ev (loopsOK_list rids noneIn) 40) (lsokIn (loopsOK_list rids noneIn) 35 0 3) (by kernel_rfl) sp_query_index_35_3 rd_query_index_35_3 rfl (by kernel_rfl) (by
    intro us v h; unfold rd_query_index_35_3 at h; split at h
    · rename_i v0 v1 v2 v3 v4; exact rq_query_index_35_3 v0 v1 v2 v3 v4
    · cases h)
noncomputable abbrev ll_query_index_35_3 {R : Type} : List (Nat × Nat × Nat × Smy R) := (35, 0, 3, gL sp_query_index_35_3 rd_query_index_35_3 br) :: []
theorem lk_query_index_35_3 {R : Type} : ∀ e ∈ ll_query_index_35_3 (R := R), LoopTells Try.prog X108 M_query_index L_query_index e.2.1 (L_query_index e.1) (bodyOf Try.prog e.1 e.2.2.1) e.2.2.2 := List.forall_mem_cons.2 ⟨lo_query_index_35_3, noneIn⟩
def S_query_index : FSp := ⟨[.one (.l 46), .one (.i .i64)], [], [], [([.one (.mp 0)], [.map 29 false])]⟩
noncomputable def m_query_index : List U → Rt
  | [.l v0, .i v1] =>
    (let r0 : Rs := (lres rd_query_index_35_3 [U.i v1, U.l v0, U.i (ln v0), U.i (0 : Int), U.l []])
    (.test (ok r0 0)
    (.stop 0 [.l (uL (out r0 0) 0)])
    .fail))
  | _ => .fail
set_option maxRecDepth 100000 in
theorem q_query_index (v0 : List (List PV)) (v1 : Int) : callK br Try.prog X108 M_query_index L_query_index (lsT ll_query_index_35_3) 60 35 (encs [.l v0, .i v1] 0 S_query_index.ap) (encH [.l v0, .i v1] (ws S_query_index.ap) S_query_index.ah) (fun y => fixR Try.prog S_query_index.plan S_query_index.ah.length y) =
    (m_query_index [.l v0, .i v1]).go br (fun _ => none) S_query_index.fin := by
  rw [← callF_eq]; kernel_rfl
theorem e_query_index : EOK Try.prog 35 (gF S_query_index m_query_index) :=
  eokTold mixed named x108 (loopsOK_list rids lk_query_index_35_3) 60 S_query_index m_query_index (by
    intro us v h; unfold m_query_index at h; split at h
    · rename_i v0 v1; exact q_query_index v0 v1
    · cases h) false
noncomputable abbrev X109 : Ext := extT [(35, (gF S_query_index m_query_index))] X108
theorem x109 : XOK Try.prog X109 := xok1 x108 e_query_index

def L_slices_Concat_Row : FuncId → Nat → Option (List Nat) := liveT [(57, 3, [0, 3, 9, 10, 11]), (57, 1000003, [0, 3]), (57, 2000003, [2]), (57, 11, [6, 25, 26, 27]), (57, 1000011, [6]), (57, 2000011, [2])]
def M_slices_Concat_Row : FuncId → Bool := fun _ => false
noncomputable def rd_slices_Concat_Row_57_3 : List U → Rt
  | [.l v0, .i v1, .l v2, .i v3, .i v4] =>
    (.test (decide (v4 < v3))
    (.test (inR v4 (ln v2))
    (.test (decide (w64 (v1 + ln (cL (el v2 v4) 0)) < (0 : Int)))
    .fail
    (.next [.l v0, .i (w64 (v1 + ln (cL (el v2 v4) 0))), .l v2, .i v3, .i (w64 (v4 + (1 : Int)))]))
    .fail)
    (.stop 0 [.l v0, .i v1]))
  | _ => .fail
def sp_slices_Concat_Row_57_3 : LSp := ⟨36, ⟨[(0, .one (.l 44)), (3, .one (.i .i64)), (9, .one (.l 44)), (10, .one (.i .i64)), (11, .one (.i .i64))], []⟩, [(.exit 0, ⟨[(0, .one (.l 44)), (3, .one (.i .i64))], []⟩)]⟩
set_option maxRecDepth 100000 in
theorem rq_slices_Concat_Row_57_3 (v0 : List (List PV)) (v1 : Int) (v2 : List (List PV)) (v3 : Int) (v4 : Int) : runK br Try.prog (callK br Try.prog X109 M_slices_Concat_Row L_slices_Concat_Row (lsT []) 40) M_slices_Concat_Row (lsT [] 57 0) 40 0 (L_slices_Concat_Row 57) (bodyOf Try.prog 57 3) (sp_slices_Concat_Row_57_3.s.ts sp_slices_Concat_Row_57_3.n [.l v0, .i v1, .l v2, .i v3, .i v4]) (sp_slices_Concat_Row_57_3.s.h [.l v0, .i v1, .l v2, .i v3, .i v4]) (idc Try.prog 0 (L_slices_Concat_Row 57) 3) =
    (rd_slices_Concat_Row_57_3 [.l v0, .i v1, .l v2, .i v3, .i v4]).go br (fun us' => some (.normal, sp_slices_Concat_Row_57_3.s.ts sp_slices_Concat_Row_57_3.n us', sp_slices_Concat_Row_57_3.s.h us')) sp_slices_Concat_Row_57_3.fin := by
  rw [← callF_eq, ← runF_eq]; kernel_rfl
theorem lo_slices_Concat_Row_57_3 {R : Type} : LoopTells Try.prog X109 M_slices_Concat_Row L_slices_Concat_Row 0 (L_slices_Concat_Row 57) (bodyOf Try.prog 57 3) (gL (R := R) sp_slices_Concat_Row_57_3 rd_slices_Concat_Row_57_3 br) :=
  loopTold (callK_ev (loopsOK_list rids noneIn) 40) (lsokIn (loopsOK_list rids noneIn) 57 0 3) (by kernel_rfl) sp_slices_Concat_Row_57_3 rd_slices_Concat_Row_57_3 rfl (by kernel_rfl) (by
    intro us v h; unfold rd_slices_Concat_Row_57_3 at h; split at h
    · rename_i v0 v1 v2 v3 v4; exact rq_slices_Concat_Row_57_3 v0 v1 v2 v3 v4
    · cases h)
noncomputable abbrev ll_slices_Concat_Row_57_3 {R : Type} : List (Nat × Nat × Nat × Smy R) := (57, 0, 3, gL sp_slices_Concat_Row_57_3 rd_slices_Concat_Row_57_3 br) :: []
theorem lk_slices_Concat_Row_57_3 {R : Type} : ∀ e ∈ ll_slices_Concat_Row_57_3 (R := R), LoopTells Try.prog X109 M_slices_Concat_Row L_slices_Concat_Row e.2.1 (L_slices_Concat_Row e.1) (bodyOf Try.prog e.1 e.2.2.1) e.2.2.2 := List.forall_mem_cons.2 ⟨lo_slices_Concat_Row_57_3, noneIn⟩
noncomputable def rd_slices_Concat_Row_57_11 : List U → Rt
  | [.l v0, .i v1, .i v2, .l v3] =>
    (.test (decide (v2 < v1))
    (.test (inR v2 (ln v0))
    (.test (decide ((List.length v3 + List.length (cL (el v0 v2) 0)) * 32 ≤ 140737488355328))
    (.next [.l v0, .i v1, .i (w64 (v2 + (1 : Int))), .l (v3 ++ cL (el v0 v2) 0)])
    .fail)
    .fail)
    (.stop 0 [.l v3]))
  | _ => .fail
def sp_slices_Concat_Row_57_11 : LSp := ⟨36, ⟨[(6, .one (.all 0)), (25, .one (.l 44)), (26, .one (.i .i64)), (27, .one (.i .i64))], [.arr 48 true]⟩, [(.exit 2, ⟨[(6, .one (.all 0))], [.arr 48 true]⟩)]⟩
set_option maxRecDepth 100000 in
theorem rq_slices_Concat_Row_57_11 (v0 : List (List PV)) (v1 : Int) (v2 : Int) (v3 : List (List PV)) : runK br Try.prog (callK br Try.prog X109 M_slices_Concat_Row L_slices_Concat_Row (lsT ll_slices_Concat_Row_57_3) 40) M_slices_Concat_Row (lsT ll_slices_Concat_Row_57_3 57 0) 40 0 (L_slices_Concat_Row 57) (bodyOf Try.prog 57 11) (sp_slices_Concat_Row_57_11.s.ts sp_slices_Concat_Row_57_11.n [.l v0, .i v1, .i v2, .l v3]) (sp_slices_Concat_Row_57_11.s.h [.l v0, .i v1, .i v2, .l v3]) (idc Try.prog 0 (L_slices_Concat_Row 57) 11) =
    (rd_slices_Concat_Row_57_11 [.l v0, .i v1, .i v2, .l v3]).go br (fun us' => some (.normal, sp_slices_Concat_Row_57_11.s.ts sp_slices_Concat_Row_57_11.n us', sp_slices_Concat_Row_57_11.s.h us')) sp_slices_Concat_Row_57_11.fin := by
  rw [← callF_eq, ← runF_eq]; kernel_rfl
theorem lo_slices_Concat_Row_57_11 {R : Type} : LoopTells Try.prog X109 M_slices_Concat_Row L_slices_Concat_Row 0 (L_slices_Concat_Row 57) (bodyOf Try.prog 57 11) (gL (R := R) sp_slices_Concat_Row_57_11 rd_slices_Concat_Row_57_11 br) :=
  loopTold (callK_ev (loopsOK_list rids lk_slices_Concat_Row_57_3) 40) (lsokIn (loopsOK_list rids lk_slices_Concat_Row_57_3) 57 0 11) (by kernel_rfl) sp_slices_Concat_Row_57_11 rd_slices_Concat_Row_57_11 rfl (by kernel_rfl) (by
    intro us v h; unfold rd_slices_Concat_Row_57_11 at h; split at h
    · rename_i v0 v1 v2 v3; exact rq_slices_Concat_Row_57_11 v0 v1 v2 v3
    · cases h)
noncomputable abbrev ll_slices_Concat_Row_57_11 {R : Type} : List (Nat × Nat × Nat × Smy R) := (57, 0, 11, gL sp_slices_Concat_Row_57_11 rd_slices_Concat_Row_57_11 br) :: ll_slices_Concat_Row_57_3
theorem lk_slices_Concat_Row_57_11 {R : Type} : ∀ e ∈ ll_slices_Concat_Row_57_11 (R := R), LoopTells Try.prog X109 M_slices_Concat_Row L_slices_Concat_Row e.2.1 (L_slices_Concat_Row e.1) (bodyOf Try.prog e.1 e.2.2.1) e.2.2.2 := List.forall_mem_cons.2 ⟨lo_slices_Concat_Row_57_11, lk_slices_Concat_Row_57_3⟩
def S_slices_Concat_Row : FSp := ⟨[.one (.l 44)], [], [], [([.one (.all 0)], [.arr 48 true])]⟩
noncomputable def m_slices_Concat_Row : List U → Rt
  | [.l v0] =>
    (let r0 : Rs := (lres rd_slices_Concat_Row_57_3 [U.l v0, U.i (0 : Int), U.l v0, U.i (ln v0), U.i (0 : Int)])
    (.test (ok r0 0)
    (.test (decide ((0 : Int) ≤ uI (out r0 0) 1 ∧ uI (out r0 0) 1 * (32 : Int) ≤ (140737488355328 : Int)))
    (let r1 : Rs := (lres rd_slices_Concat_Row_57_11 [U.l (uL (out r0 0) 0), U.i (ln (uL (out r0 0) 0)), U.i (0 : Int), U.l []])
    (.test (ok r1 0)
    (.stop 0 [.l (uL (out r1 0) 0)])
    .fail))
    .fail)
    .fail))
  | _ => .fail
set_option maxRecDepth 100000 in
theorem q_slices_Concat_Row (v0 : List (List PV)) : callK br Try.prog X109 M_slices_Concat_Row L_slices_Concat_Row (lsT ll_slices_Concat_Row_57_11) 60 57 (encs [.l v0] 0 S_slices_Concat_Row.ap) (encH [.l v0] (ws S_slices_Concat_Row.ap) S_slices_Concat_Row.ah) (fun y => fixR Try.prog S_slices_Concat_Row.plan S_slices_Concat_Row.ah.length y) =
    (m_slices_Concat_Row [.l v0]).go br (fun _ => none) S_slices_Concat_Row.fin := by
  rw [← callF_eq]; kernel_rfl
theorem e_slices_Concat_Row : EOK Try.prog 57 (gF S_slices_Concat_Row m_slices_Concat_Row) :=
  eokTold mixed named x109 (loopsOK_list rids lk_slices_Concat_Row_57_11) 60 S_slices_Concat_Row m_slices_Concat_Row (by
    intro us v h; unfold m_slices_Concat_Row at h; split at h
    · rename_i v0; exact q_slices_Concat_Row v0
    · cases h) false
noncomputable abbrev X110 : Ext := extT [(57, (gF S_slices_Concat_Row m_slices_Concat_Row))] X109
theorem x110 : XOK Try.prog X110 := xok1 x109 e_slices_Concat_Row

def L_row_Join : FuncId → Nat → Option (List Nat) := liveT []
def M_row_Join : FuncId → Bool := fun _ => false
def S_row_Join : FSp := ⟨[.one (.l 44)], [], [], [([.one (.all 0)], [.arr 48 true])]⟩
noncomputable def m_row_Join : List U → Rt
  | [.l v0] =>
    (let r0 : Rs := (Rt.res (m_slices_Concat_Row [U.l v0]))
    (.test (ok r0 0)
    (.stop 0 [.l (uL (out r0 0) 0)])
    .fail))
  | _ => .fail
set_option maxRecDepth 100000 in
theorem q_row_Join (v0 : List (List PV)) : callK br Try.prog X110 M_row_Join L_row_Join (lsT []) 60 38 (encs [.l v0] 0 S_row_Join.ap) (encH [.l v0] (ws S_row_Join.ap) S_row_Join.ah) (fun y => fixR Try.prog S_row_Join.plan S_row_Join.ah.length y) =
    (m_row_Join [.l v0]).go br (fun _ => none) S_row_Join.fin := by
  rw [← callF_eq]; kernel_rfl
theorem e_row_Join : EOK Try.prog 38 (gF S_row_Join m_row_Join) :=
  eokTold mixed named x110 (loopsOK_list rids noneIn) 60 S_row_Join m_row_Join (by
    intro us v h; unfold m_row_Join at h; split at h
    · rename_i v0; exact q_row_Join v0
    · cases h) false
noncomputable abbrev X111 : Ext := extT [(38, (gF S_row_Join m_row_Join))] X110
theorem x111 : XOK Try.prog X111 := xok1 x110 e_row_Join

def L_query_Product : FuncId → Nat → Option (List Nat) := liveT [(14, 13, [3, 8, 93000009, 11, 36, 37, 38, 55, 56, 57]), (14, 1000013, [3, 8, 9, 36, 37, 38]), (14, 2000013, [6, 7]), (14, 8, [3, 499999000008, 93000009, 36, 37, 38]), (14, 1000008, [9]), (14, 2000008, [6, 7])]
def M_query_Product : FuncId → Bool := fun _ => false
noncomputable def rd_query_Product_14_13 : List U → Rt
  | [.l v0, .i v1, .i v2, .l v3, .i v4, .i v5, .s v6, .s v7, .s v8, .i v9, .i v10, .l v11, .l v12, .b v13, .l v14, .l v15, .l v16, .l v17, .i v18] =>
    (.test (decide (v5 < v4))
    (.test (inR v5 (ln v3))
    (let r0 : Rs := (Rt.res (m_row_Join [U.l [[PV.lst 48 v17], [PV.lst 48 (cL (el v3 v5) 0)]]]))
    (.test (ok r0 0)
    (.test (decide (ln (uL (out r0 0) 0) > (40 : Int)))
    (.stop 0 [.i ((100 : Int))])
    (.test (decide (w64 (v18 * cI (el v3 v5) 1) > (1000000000 : Int)))
    (.stop 0 [.i ((100 : Int))])
    (.test (decide (w64 (v18 * cI (el v3 v5) 1) < (-1000000000 : Int)))
    (.stop 0 [.i ((100 : Int))])
    (.test (decide (ln v16 ≥ (10000 : Int)))
    (.stop 0 [.i ((100 : Int))])
    (.test (decide ((List.length v16 + 1) * 32 ≤ 140737488355328))
    (.next [.l v0, .i v1, .i v2, .l v3, .i v4, .i (w64 (v5 + (1 : Int))), .s v6, .s v7, .s v8, .i v9, .i v10, .l v11, .l v12, .b v13, .l v14, .l v15, .l (v16 ++ [[PV.lst 48 (uL (out r0 0) 0), pI (w64 (v18 * cI (el v3 v5) 1))]]), .l v17, .i v18])
    .fail)))))
    .fail))
    .fail)
    (.stop 1 [.l v0, .i v1, .i v2, .s v6, .s v7, .s v8, .i v9, .i v10, .l v11, .l v12, .b v13, .l v14, .l v15, .l v16]))
  | _ => .fail
def sp_query_Product_14_13 : LSp := ⟨104, ⟨[(3, .one (.ptr 0 0)), (8, .one (.mp 1)), (9, .one (.all 2)), (11, .one (.ptr 3 0)), (36, .one (.l 46)), (37, .one (.i .i64)), (38, .one (.i .i64)), (55, .one (.l 46)), (56, .one (.i .i64)), (57, .one (.i .i64))], [.box 28 [.one (.s), .one (.s), .one (.s), .one (.i .i64), .one (.i .i64), .one (.l 63), .one (.l 3), .one (.b), .one (.l 165)], .map 29 true, .arr 46 true, .box 46 [.one (.l 48), .one (.i .i64)]]⟩, [(.ret, ⟨[(6, .one (.nils)), (7, .one (.i .i64))], []⟩), (.exit 2, ⟨[(3, .one (.ptr 0 0)), (8, .one (.mp 1)), (9, .one (.all 2)), (36, .one (.l 46)), (37, .one (.i .i64)), (38, .one (.i .i64))], [.box 28 [.one (.s), .one (.s), .one (.s), .one (.i .i64), .one (.i .i64), .one (.l 63), .one (.l 3), .one (.b), .one (.l 165)], .map 29 true, .arr 46 true]⟩)]⟩
set_option maxRecDepth 100000 in
theorem rq_query_Product_14_13 (v0 : List (List PV)) (v1 : Int) (v2 : Int) (v3 : List (List PV)) (v4 : Int) (v5 : Int) (v6 : ByteArray) (v7 : ByteArray) (v8 : ByteArray) (v9 : Int) (v10 : Int) (v11 : List (List PV)) (v12 : List (List PV)) (v13 : Bool) (v14 : List (List PV)) (v15 : List (List PV)) (v16 : List (List PV)) (v17 : List (List PV)) (v18 : Int) : runK br Try.prog (callK br Try.prog X111 M_query_Product L_query_Product (lsT []) 40) M_query_Product (lsT [] 14 0) 40 0 (L_query_Product 14) (bodyOf Try.prog 14 13) (sp_query_Product_14_13.s.ts sp_query_Product_14_13.n [.l v0, .i v1, .i v2, .l v3, .i v4, .i v5, .s v6, .s v7, .s v8, .i v9, .i v10, .l v11, .l v12, .b v13, .l v14, .l v15, .l v16, .l v17, .i v18]) (sp_query_Product_14_13.s.h [.l v0, .i v1, .i v2, .l v3, .i v4, .i v5, .s v6, .s v7, .s v8, .i v9, .i v10, .l v11, .l v12, .b v13, .l v14, .l v15, .l v16, .l v17, .i v18]) (idc Try.prog 0 (L_query_Product 14) 13) =
    (rd_query_Product_14_13 [.l v0, .i v1, .i v2, .l v3, .i v4, .i v5, .s v6, .s v7, .s v8, .i v9, .i v10, .l v11, .l v12, .b v13, .l v14, .l v15, .l v16, .l v17, .i v18]).go br (fun us' => some (.normal, sp_query_Product_14_13.s.ts sp_query_Product_14_13.n us', sp_query_Product_14_13.s.h us')) sp_query_Product_14_13.fin := by
  rw [← callF_eq, ← runF_eq]; kernel_rfl
theorem lo_query_Product_14_13 {R : Type} : LoopTells Try.prog X111 M_query_Product L_query_Product 0 (L_query_Product 14) (bodyOf Try.prog 14 13) (gL (R := R) sp_query_Product_14_13 rd_query_Product_14_13 br) :=
  loopTold (callK_ev (loopsOK_list rids noneIn) 40) (lsokIn (loopsOK_list rids noneIn) 14 0 13) (by kernel_rfl) sp_query_Product_14_13 rd_query_Product_14_13 rfl (by kernel_rfl) (by
    intro us v h; unfold rd_query_Product_14_13 at h; split at h
    · rename_i v0 v1 v2 v3 v4 v5 v6 v7 v8 v9 v10 v11 v12 v13 v14 v15 v16 v17 v18; exact rq_query_Product_14_13 v0 v1 v2 v3 v4 v5 v6 v7 v8 v9 v10 v11 v12 v13 v14 v15 v16 v17 v18
    · cases h)
noncomputable abbrev ll_query_Product_14_13 {R : Type} : List (Nat × Nat × Nat × Smy R) := (14, 0, 13, gL sp_query_Product_14_13 rd_query_Product_14_13 br) :: []
theorem lk_query_Product_14_13 {R : Type} : ∀ e ∈ ll_query_Product_14_13 (R := R), LoopTells Try.prog X111 M_query_Product L_query_Product e.2.1 (L_query_Product e.1) (bodyOf Try.prog e.1 e.2.2.1) e.2.2.2 := List.forall_mem_cons.2 ⟨lo_query_Product_14_13, noneIn⟩
noncomputable def rd_query_Product_14_8 : List U → Rt
  | [.l v0, .i v1, .i v2, .s v3, .s v4, .s v5, .i v6, .i v7, .l v8, .l v9, .b v10, .l v11, .l v12, .l v13] =>
    (.test (decide (v2 < v1))
    (.test (inR v2 (ln v0))
    (let r0 : Rs := (Rt.res (m_query_at [U.l (cL (el v0 v2) 0), U.i v6]))
    (.test (ok r0 0)
    (.test (uI (out r0 0) 0 == (0 : Int))
    (.next [.l v0, .i v1, .i (w64 (v2 + (1 : Int))), .s v3, .s v4, .s v5, .i v6, .i v7, .l v8, .l v9, .b v10, .l v11, .l v12, .l v13])
    (let r1 : Rs := (Rt.res (m_key_Encode [U.l [[pI (uI (out r0 0) 0), pI (uI (out r0 0) 1), pS (uS (out r0 0) 2)]]]))
    (.test (ok r1 0)
    (let r2 : Rs := (lres rd_query_Product_14_13 [U.l v0, U.i v1, U.i v2, U.l (lkM v12 (uS (out r1 0) 0)), U.i (ln (lkM v12 (uS (out r1 0) 0))), U.i (0 : Int), U.s v3, U.s v4, U.s v5, U.i v6, U.i v7, U.l v8, U.l v9, U.b v10, U.l v11, U.l v12, U.l v13, U.l (cL (el v0 v2) 0), U.i (cI (el v0 v2) 1)])
    (.test (ok r2 0)
    (.stop 0 [.i (uI (out r2 0) 0)])
    (.test (ok r2 1)
    (.next [.l (uL (out r2 1) 0), .i (uI (out r2 1) 1), .i (w64 (uI (out r2 1) 2 + (1 : Int))), .s (uS (out r2 1) 3), .s (uS (out r2 1) 4), .s (uS (out r2 1) 5), .i (uI (out r2 1) 6), .i (uI (out r2 1) 7), .l (uL (out r2 1) 8), .l (uL (out r2 1) 9), .b (uB (out r2 1) 10), .l (uL (out r2 1) 11), .l (uL (out r2 1) 12), .l (uL (out r2 1) 13)])
    .fail)))
    .fail)))
    .fail))
    .fail)
    (.stop 1 [.l v13]))
  | _ => .fail
def sp_query_Product_14_8 : LSp := ⟨104, ⟨[(3, .one (.ptr 0 0)), (8, .one (.mp 1)), (9, .one (.all 2)), (36, .one (.l 46)), (37, .one (.i .i64)), (38, .one (.i .i64))], [.box 28 [.one (.s), .one (.s), .one (.s), .one (.i .i64), .one (.i .i64), .one (.l 63), .one (.l 3), .one (.b), .one (.l 165)], .map 29 true, .arr 46 true]⟩, [(.ret, ⟨[(6, .one (.nils)), (7, .one (.i .i64))], []⟩), (.exit 0, ⟨[(9, .one (.all 0))], [.arr 46 true]⟩)]⟩
set_option maxRecDepth 100000 in
theorem rq_query_Product_14_8 (v0 : List (List PV)) (v1 : Int) (v2 : Int) (v3 : ByteArray) (v4 : ByteArray) (v5 : ByteArray) (v6 : Int) (v7 : Int) (v8 : List (List PV)) (v9 : List (List PV)) (v10 : Bool) (v11 : List (List PV)) (v12 : List (List PV)) (v13 : List (List PV)) : runK br Try.prog (callK br Try.prog X111 M_query_Product L_query_Product (lsT ll_query_Product_14_13) 40) M_query_Product (lsT ll_query_Product_14_13 14 0) 40 0 (L_query_Product 14) (bodyOf Try.prog 14 8) (sp_query_Product_14_8.s.ts sp_query_Product_14_8.n [.l v0, .i v1, .i v2, .s v3, .s v4, .s v5, .i v6, .i v7, .l v8, .l v9, .b v10, .l v11, .l v12, .l v13]) (sp_query_Product_14_8.s.h [.l v0, .i v1, .i v2, .s v3, .s v4, .s v5, .i v6, .i v7, .l v8, .l v9, .b v10, .l v11, .l v12, .l v13]) (idc Try.prog 0 (L_query_Product 14) 8) =
    (rd_query_Product_14_8 [.l v0, .i v1, .i v2, .s v3, .s v4, .s v5, .i v6, .i v7, .l v8, .l v9, .b v10, .l v11, .l v12, .l v13]).go br (fun us' => some (.normal, sp_query_Product_14_8.s.ts sp_query_Product_14_8.n us', sp_query_Product_14_8.s.h us')) sp_query_Product_14_8.fin := by
  rw [← callF_eq, ← runF_eq]; kernel_rfl
theorem lo_query_Product_14_8 {R : Type} : LoopTells Try.prog X111 M_query_Product L_query_Product 0 (L_query_Product 14) (bodyOf Try.prog 14 8) (gL (R := R) sp_query_Product_14_8 rd_query_Product_14_8 br) :=
  loopTold (callK_ev (loopsOK_list rids lk_query_Product_14_13) 40) (lsokIn (loopsOK_list rids lk_query_Product_14_13) 14 0 8) (by kernel_rfl) sp_query_Product_14_8 rd_query_Product_14_8 rfl (by kernel_rfl) (by
    intro us v h; unfold rd_query_Product_14_8 at h; split at h
    · rename_i v0 v1 v2 v3 v4 v5 v6 v7 v8 v9 v10 v11 v12 v13; exact rq_query_Product_14_8 v0 v1 v2 v3 v4 v5 v6 v7 v8 v9 v10 v11 v12 v13
    · cases h)
noncomputable abbrev ll_query_Product_14_8 {R : Type} : List (Nat × Nat × Nat × Smy R) := (14, 0, 8, gL sp_query_Product_14_8 rd_query_Product_14_8 br) :: ll_query_Product_14_13
theorem lk_query_Product_14_8 {R : Type} : ∀ e ∈ ll_query_Product_14_8 (R := R), LoopTells Try.prog X111 M_query_Product L_query_Product e.2.1 (L_query_Product e.1) (bodyOf Try.prog e.1 e.2.2.1) e.2.2.2 := List.forall_mem_cons.2 ⟨lo_query_Product_14_8, lk_query_Product_14_13⟩
def S_query_Product : FSp := ⟨[.agg [.s, .s, .s, .i .i64, .i .i64, .l 63, .l 3, .b, .l 165], .one (.l 46), .one (.l 46)], [], [93000000], [([.one (.all 0), .one (.i .i64)], [.arr 46 true])]⟩
noncomputable def m_query_Product : List U → Rt
  | [.s v0, .s v1, .s v2, .i v3, .i v4, .l v5, .l v6, .b v7, .l v8, .l v9, .l v10] =>
    (let r0 : Rs := (Rt.res (m_bag_May [U.l v9]))
    (.test (ok r0 0)
    (.test (!uB (out r0 0) 0)
    (.stop 0 [.i ((0 : Int)), .l []])
    (let r1 : Rs := (Rt.res (m_bag_May [U.l v10]))
    (.test (ok r1 0)
    (.test (!uB (out r1 0) 0)
    (.stop 0 [.i ((0 : Int)), .l []])
    (.test (ByteArray.toList v2 == [])
    (let r2 : Rs := (Rt.res (m_bag_Plus [U.l [[PV.lst 46 v9]]]))
    (.test (ok r2 0)
    (.stop 0 [.i ((0 : Int)), .l (uL (out r2 0) 0)])
    .fail))
    (let r3 : Rs := (Rt.res (m_query_index [U.l v10, U.i v4]))
    (.test (ok r3 0)
    (let r4 : Rs := (lres rd_query_Product_14_8 [U.l v9, U.i (ln v9), U.i (0 : Int), U.s v0, U.s v1, U.s v2, U.i v3, U.i v4, U.l v5, U.l v6, U.b v7, U.l v8, U.l (uL (out r3 0) 0), U.l []])
    (.test (ok r4 0)
    (.stop 0 [.i (uI (out r4 0) 0), .l []])
    (.test (ok r4 1)
    (let r5 : Rs := (Rt.res (m_bag_Sum [U.l (uL (out r4 1) 0)]))
    (.test (ok r5 0)
    (let r6 : Rs := (Rt.res (m_bag_May [U.l (uL (out r5 0) 0)]))
    (.test (ok r6 0)
    (.test (!uB (out r6 0) 0)
    (.stop 0 [.i ((100 : Int)), .l []])
    (.stop 0 [.i ((0 : Int)), .l (uL (out r5 0) 0)]))
    .fail))
    .fail))
    .fail)))
    .fail))))
    .fail)))
    .fail))
  | _ => .fail
set_option maxRecDepth 100000 in
theorem q_query_Product (v0 : ByteArray) (v1 : ByteArray) (v2 : ByteArray) (v3 : Int) (v4 : Int) (v5 : List (List PV)) (v6 : List (List PV)) (v7 : Bool) (v8 : List (List PV)) (v9 : List (List PV)) (v10 : List (List PV)) : callK br Try.prog X111 M_query_Product L_query_Product (lsT ll_query_Product_14_8) 60 14 (encs [.s v0, .s v1, .s v2, .i v3, .i v4, .l v5, .l v6, .b v7, .l v8, .l v9, .l v10] 0 S_query_Product.ap) (encH [.s v0, .s v1, .s v2, .i v3, .i v4, .l v5, .l v6, .b v7, .l v8, .l v9, .l v10] (ws S_query_Product.ap) S_query_Product.ah) (fun y => fixR Try.prog S_query_Product.plan S_query_Product.ah.length y) =
    (m_query_Product [.s v0, .s v1, .s v2, .i v3, .i v4, .l v5, .l v6, .b v7, .l v8, .l v9, .l v10]).go br (fun _ => none) S_query_Product.fin := by
  rw [← callF_eq]; kernel_rfl
theorem e_query_Product : EOK Try.prog 14 (gF S_query_Product m_query_Product) :=
  eokTold mixed named x111 (loopsOK_list rids lk_query_Product_14_8) 60 S_query_Product m_query_Product (by
    intro us v h; unfold m_query_Product at h; split at h
    · rename_i v0 v1 v2 v3 v4 v5 v6 v7 v8 v9 v10; exact q_query_Product v0 v1 v2 v3 v4 v5 v6 v7 v8 v9 v10
    · cases h) false
noncomputable abbrev X112 : Ext := extT [(14, (gF S_query_Product m_query_Product))] X111
theorem x112 : XOK Try.prog X112 := xok1 x111 e_query_Product

def L_expr_takes : FuncId → Nat → Option (List Nat) := liveT []
def M_expr_takes : FuncId → Bool := fun _ => false
def S_expr_takes : FSp := ⟨[.one (.i .i64)], [], [], [([.one (.i .i64)], [])]⟩
noncomputable def m_expr_takes : List U → Rt
  | [.i v0] =>
    (.test (v0 == (0 : Int))
    (.stop 0 [.i ((0 : Int))])
    (.test (v0 == (1 : Int))
    (.stop 0 [.i ((0 : Int))])
    (.test (v0 == (9 : Int))
    (.stop 0 [.i ((1 : Int))])
    (.test (v0 == (10 : Int))
    (.stop 0 [.i ((1 : Int))])
    (.test (v0 == (2 : Int))
    (.stop 0 [.i ((2 : Int))])
    (.test (v0 == (3 : Int))
    (.stop 0 [.i ((2 : Int))])
    (.test (v0 == (4 : Int))
    (.stop 0 [.i ((2 : Int))])
    (.test (v0 == (5 : Int))
    (.stop 0 [.i ((2 : Int))])
    (.test (v0 == (6 : Int))
    (.stop 0 [.i ((2 : Int))])
    (.test (v0 == (7 : Int))
    (.stop 0 [.i ((2 : Int))])
    (.test (v0 == (8 : Int))
    (.stop 0 [.i ((2 : Int))])
    (.stop 0 [.i ((-1 : Int))]))))))))))))
  | _ => .fail
set_option maxRecDepth 100000 in
theorem q_expr_takes (v0 : Int) : callK br Try.prog X112 M_expr_takes L_expr_takes (lsT []) 60 80 (encs [.i v0] 0 S_expr_takes.ap) (encH [.i v0] (ws S_expr_takes.ap) S_expr_takes.ah) (fun y => fixR Try.prog S_expr_takes.plan S_expr_takes.ah.length y) =
    (m_expr_takes [.i v0]).go br (fun _ => none) S_expr_takes.fin := by
  rw [← callF_eq]; kernel_rfl
theorem e_expr_takes : EOK Try.prog 80 (gF S_expr_takes m_expr_takes) :=
  eokTold mixed named x112 (loopsOK_list rids noneIn) 60 S_expr_takes m_expr_takes (by
    intro us v h; unfold m_expr_takes at h; split at h
    · rename_i v0; exact q_expr_takes v0
    · cases h) false
noncomputable abbrev X113 : Ext := extT [(80, (gF S_expr_takes m_expr_takes))] X112
theorem x113 : XOK Try.prog X113 := xok1 x112 e_expr_takes

def L_expr_all : FuncId → Nat → Option (List Nat) := liveT [(89, 2, [0, 7, 8, 9]), (89, 1000002, []), (89, 2000002, [4])]
def M_expr_all : FuncId → Bool := fun _ => false
noncomputable def rd_expr_all_89_2 : List U → Rt
  | [.i v0, .l v1, .i v2, .i v3] =>
    (.test (decide (v3 < v2))
    (.test (inR v3 (ln v1))
    (.test (cI (el v1 v3) 0 != v0)
    (.test (cI (el v1 v3) 0 != (0 : Int))
    (.stop 0 [.b false])
    (.next [.i v0, .l v1, .i v2, .i (w64 (v3 + (1 : Int)))]))
    (.next [.i v0, .l v1, .i v2, .i (w64 (v3 + (1 : Int)))]))
    .fail)
    (.stop 1 []))
  | _ => .fail
def sp_expr_all_89_2 : LSp := ⟨21, ⟨[(0, .one (.i .i64)), (7, .one (.l 3)), (8, .one (.i .i64)), (9, .one (.i .i64))], []⟩, [(.ret, ⟨[(4, .one (.b))], []⟩), (.exit 0, ⟨[], []⟩)]⟩
set_option maxRecDepth 100000 in
theorem rq_expr_all_89_2 (v0 : Int) (v1 : List (List PV)) (v2 : Int) (v3 : Int) : runK br Try.prog (callK br Try.prog X113 M_expr_all L_expr_all (lsT []) 40) M_expr_all (lsT [] 89 0) 40 0 (L_expr_all 89) (bodyOf Try.prog 89 2) (sp_expr_all_89_2.s.ts sp_expr_all_89_2.n [.i v0, .l v1, .i v2, .i v3]) (sp_expr_all_89_2.s.h [.i v0, .l v1, .i v2, .i v3]) (idc Try.prog 0 (L_expr_all 89) 2) =
    (rd_expr_all_89_2 [.i v0, .l v1, .i v2, .i v3]).go br (fun us' => some (.normal, sp_expr_all_89_2.s.ts sp_expr_all_89_2.n us', sp_expr_all_89_2.s.h us')) sp_expr_all_89_2.fin := by
  rw [← callF_eq, ← runF_eq]; kernel_rfl
theorem lo_expr_all_89_2 {R : Type} : LoopTells Try.prog X113 M_expr_all L_expr_all 0 (L_expr_all 89) (bodyOf Try.prog 89 2) (gL (R := R) sp_expr_all_89_2 rd_expr_all_89_2 br) :=
  loopTold (callK_ev (loopsOK_list rids noneIn) 40) (lsokIn (loopsOK_list rids noneIn) 89 0 2) (by kernel_rfl) sp_expr_all_89_2 rd_expr_all_89_2 rfl (by kernel_rfl) (by
    intro us v h; unfold rd_expr_all_89_2 at h; split at h
    · rename_i v0 v1 v2 v3; exact rq_expr_all_89_2 v0 v1 v2 v3
    · cases h)
noncomputable abbrev ll_expr_all_89_2 {R : Type} : List (Nat × Nat × Nat × Smy R) := (89, 0, 2, gL sp_expr_all_89_2 rd_expr_all_89_2 br) :: []
theorem lk_expr_all_89_2 {R : Type} : ∀ e ∈ ll_expr_all_89_2 (R := R), LoopTells Try.prog X113 M_expr_all L_expr_all e.2.1 (L_expr_all e.1) (bodyOf Try.prog e.1 e.2.2.1) e.2.2.2 := List.forall_mem_cons.2 ⟨lo_expr_all_89_2, noneIn⟩
def S_expr_all : FSp := ⟨[.one (.i .i64), .one (.l 3)], [], [], [([.one (.b)], [])]⟩
noncomputable def m_expr_all : List U → Rt
  | [.i v0, .l v1] =>
    (let r0 : Rs := (lres rd_expr_all_89_2 [U.i v0, U.l v1, U.i (ln v1), U.i (0 : Int)])
    (.test (ok r0 0)
    (.stop 0 [.b (uB (out r0 0) 0)])
    (.test (ok r0 1)
    (.stop 0 [.b true])
    .fail)))
  | _ => .fail
set_option maxRecDepth 100000 in
theorem q_expr_all (v0 : Int) (v1 : List (List PV)) : callK br Try.prog X113 M_expr_all L_expr_all (lsT ll_expr_all_89_2) 60 89 (encs [.i v0, .l v1] 0 S_expr_all.ap) (encH [.i v0, .l v1] (ws S_expr_all.ap) S_expr_all.ah) (fun y => fixR Try.prog S_expr_all.plan S_expr_all.ah.length y) =
    (m_expr_all [.i v0, .l v1]).go br (fun _ => none) S_expr_all.fin := by
  rw [← callF_eq]; kernel_rfl
theorem e_expr_all : EOK Try.prog 89 (gF S_expr_all m_expr_all) :=
  eokTold mixed named x113 (loopsOK_list rids lk_expr_all_89_2) 60 S_expr_all m_expr_all (by
    intro us v h; unfold m_expr_all at h; split at h
    · rename_i v0 v1; exact q_expr_all v0 v1
    · cases h) false
noncomputable abbrev X114 : Ext := extT [(89, (gF S_expr_all m_expr_all))] X113
theorem x114 : XOK Try.prog X114 := xok1 x113 e_expr_all

def L_expr_leaves : FuncId → Nat → Option (List Nat) := liveT []
def M_expr_leaves : FuncId → Bool := fun _ => false
def S_expr_leaves : FSp := ⟨[.one (.i .i64), .one (.l 3)], [], [], [([.one (.i .i64), .one (.b)], [])]⟩
noncomputable def m_expr_leaves : List U → Rt
  | [.i v0, .l v1] =>
    (.test (v0 == (2 : Int))
    (let r0 : Rs := (Rt.res (m_expr_all [U.i (2 : Int), U.l v1]))
    (.test (ok r0 0)
    (.stop 0 [.i ((2 : Int)), .b (uB (out r0 0) 0)])
    .fail))
    (.test (v0 == (3 : Int))
    (let r1 : Rs := (Rt.res (m_expr_all [U.i (2 : Int), U.l v1]))
    (.test (ok r1 0)
    (.stop 0 [.i ((2 : Int)), .b (uB (out r1 0) 0)])
    .fail))
    (.test (v0 == (4 : Int))
    (let r2 : Rs := (Rt.res (m_expr_all [U.i (2 : Int), U.l v1]))
    (.test (ok r2 0)
    (.stop 0 [.i ((2 : Int)), .b (uB (out r2 0) 0)])
    .fail))
    (.test (v0 == (5 : Int))
    (.test (inR (0 : Int) (ln v1))
    (.test (inR (1 : Int) (ln v1))
    (.test (cI (List.getD v1 0 []) 0 == cI (List.getD v1 1 []) 0)
    (.stop 0 [.i ((1 : Int)), .b true])
    (.test (inR (0 : Int) (ln v1))
    (.test (cI (List.getD v1 0 []) 0 == (0 : Int))
    (.stop 0 [.i ((1 : Int)), .b true])
    (.test (inR (1 : Int) (ln v1))
    (.stop 0 [.i ((1 : Int)), .b (cI (List.getD v1 1 []) 0 == (0 : Int))])
    .fail))
    .fail))
    .fail)
    .fail)
    (.test (v0 == (6 : Int))
    (.test (inR (0 : Int) (ln v1))
    (.test (inR (1 : Int) (ln v1))
    (.test (cI (List.getD v1 0 []) 0 == cI (List.getD v1 1 []) 0)
    (.stop 0 [.i ((1 : Int)), .b true])
    (.test (inR (0 : Int) (ln v1))
    (.test (cI (List.getD v1 0 []) 0 == (0 : Int))
    (.stop 0 [.i ((1 : Int)), .b true])
    (.test (inR (1 : Int) (ln v1))
    (.stop 0 [.i ((1 : Int)), .b (cI (List.getD v1 1 []) 0 == (0 : Int))])
    .fail))
    .fail))
    .fail)
    .fail)
    (.test (v0 == (7 : Int))
    (let r3 : Rs := (Rt.res (m_expr_all [U.i (1 : Int), U.l v1]))
    (.test (ok r3 0)
    (.stop 0 [.i ((1 : Int)), .b (uB (out r3 0) 0)])
    .fail))
    (.test (v0 == (8 : Int))
    (let r4 : Rs := (Rt.res (m_expr_all [U.i (1 : Int), U.l v1]))
    (.test (ok r4 0)
    (.stop 0 [.i ((1 : Int)), .b (uB (out r4 0) 0)])
    .fail))
    (.test (v0 == (9 : Int))
    (let r5 : Rs := (Rt.res (m_expr_all [U.i (1 : Int), U.l v1]))
    (.test (ok r5 0)
    (.stop 0 [.i ((1 : Int)), .b (uB (out r5 0) 0)])
    .fail))
    (.stop 0 [.i ((1 : Int)), .b true])))))))))
  | _ => .fail
set_option maxRecDepth 100000 in
theorem q_expr_leaves (v0 : Int) (v1 : List (List PV)) : callK br Try.prog X114 M_expr_leaves L_expr_leaves (lsT []) 60 83 (encs [.i v0, .l v1] 0 S_expr_leaves.ap) (encH [.i v0, .l v1] (ws S_expr_leaves.ap) S_expr_leaves.ah) (fun y => fixR Try.prog S_expr_leaves.plan S_expr_leaves.ah.length y) =
    (m_expr_leaves [.i v0, .l v1]).go br (fun _ => none) S_expr_leaves.fin := by
  rw [← callF_eq]; kernel_rfl
theorem e_expr_leaves : EOK Try.prog 83 (gF S_expr_leaves m_expr_leaves) :=
  eokTold mixed named x114 (loopsOK_list rids noneIn) 60 S_expr_leaves m_expr_leaves (by
    intro us v h; unfold m_expr_leaves at h; split at h
    · rename_i v0 v1; exact q_expr_leaves v0 v1
    · cases h) false
noncomputable abbrev X115 : Ext := extT [(83, (gF S_expr_leaves m_expr_leaves))] X114
theorem x115 : XOK Try.prog X115 := xok1 x114 e_expr_leaves

def L_value_Add : FuncId → Nat → Option (List Nat) := liveT []
def M_value_Add : FuncId → Bool := fun _ => false
def S_value_Add : FSp := ⟨[.agg [.i .i64, .i .i64, .s], .agg [.i .i64, .i .i64, .s]], [], [], [([.agg [.i .i64, .i .i64, .s], .one (.b)], [])]⟩
noncomputable def m_value_Add : List U → Rt
  | [.i v0, .i v1, .s v2, .i v3, .i v4, .s v5] =>
    (.test (v0 == (0 : Int))
    (.stop 0 [.i ((0 : Int)), .i ((0 : Int)), .s ({ data := #[] }), .b true])
    (.test (v3 == (0 : Int))
    (.stop 0 [.i ((0 : Int)), .i ((0 : Int)), .s ({ data := #[] }), .b true])
    (.test (v0 != (2 : Int))
    (.stop 0 [.i ((0 : Int)), .i ((0 : Int)), .s ({ data := #[] }), .b false])
    (.test (v3 != (2 : Int))
    (.stop 0 [.i ((0 : Int)), .i ((0 : Int)), .s ({ data := #[] }), .b false])
    (.test (decide (w64 (v1 + v4) > v1) == decide (v4 > (0 : Int)))
    (.stop 0 [.i ((2 : Int)), .i (w64 (v1 + v4)), .s ({ data := #[] }), .b true])
    (.test (!v4 == (0 : Int))
    (.stop 0 [.i ((0 : Int)), .i ((0 : Int)), .s ({ data := #[] }), .b false])
    (.stop 0 [.i ((2 : Int)), .i (w64 (v1 + v4)), .s ({ data := #[] }), .b true])))))))
  | _ => .fail
set_option maxRecDepth 100000 in
theorem q_value_Add (v0 : Int) (v1 : Int) (v2 : ByteArray) (v3 : Int) (v4 : Int) (v5 : ByteArray) : callK br Try.prog X115 M_value_Add L_value_Add (lsT []) 60 90 (encs [.i v0, .i v1, .s v2, .i v3, .i v4, .s v5] 0 S_value_Add.ap) (encH [.i v0, .i v1, .s v2, .i v3, .i v4, .s v5] (ws S_value_Add.ap) S_value_Add.ah) (fun y => fixR Try.prog S_value_Add.plan S_value_Add.ah.length y) =
    (m_value_Add [.i v0, .i v1, .s v2, .i v3, .i v4, .s v5]).go br (fun _ => none) S_value_Add.fin := by
  rw [← callF_eq]; kernel_rfl
theorem e_value_Add : EOK Try.prog 90 (gF S_value_Add m_value_Add) :=
  eokTold mixed named x115 (loopsOK_list rids noneIn) 60 S_value_Add m_value_Add (by
    intro us v h; unfold m_value_Add at h; split at h
    · rename_i v0 v1 v2 v3 v4 v5; exact q_value_Add v0 v1 v2 v3 v4 v5
    · cases h) false
noncomputable abbrev X116 : Ext := extT [(90, (gF S_value_Add m_value_Add))] X115
theorem x116 : XOK Try.prog X116 := xok1 x115 e_value_Add

def L_value_Sub : FuncId → Nat → Option (List Nat) := liveT []
def M_value_Sub : FuncId → Bool := fun _ => false
def S_value_Sub : FSp := ⟨[.agg [.i .i64, .i .i64, .s], .agg [.i .i64, .i .i64, .s]], [], [], [([.agg [.i .i64, .i .i64, .s], .one (.b)], [])]⟩
noncomputable def m_value_Sub : List U → Rt
  | [.i v0, .i v1, .s v2, .i v3, .i v4, .s v5] =>
    (.test (v0 == (0 : Int))
    (.stop 0 [.i ((0 : Int)), .i ((0 : Int)), .s ({ data := #[] }), .b true])
    (.test (v3 == (0 : Int))
    (.stop 0 [.i ((0 : Int)), .i ((0 : Int)), .s ({ data := #[] }), .b true])
    (.test (v0 != (2 : Int))
    (.stop 0 [.i ((0 : Int)), .i ((0 : Int)), .s ({ data := #[] }), .b false])
    (.test (v3 != (2 : Int))
    (.stop 0 [.i ((0 : Int)), .i ((0 : Int)), .s ({ data := #[] }), .b false])
    (.test (decide (w64 (v1 - v4) < v1) == decide (v4 > (0 : Int)))
    (.stop 0 [.i ((2 : Int)), .i (w64 (v1 - v4)), .s ({ data := #[] }), .b true])
    (.test (!v4 == (0 : Int))
    (.stop 0 [.i ((0 : Int)), .i ((0 : Int)), .s ({ data := #[] }), .b false])
    (.stop 0 [.i ((2 : Int)), .i (w64 (v1 - v4)), .s ({ data := #[] }), .b true])))))))
  | _ => .fail
set_option maxRecDepth 100000 in
theorem q_value_Sub (v0 : Int) (v1 : Int) (v2 : ByteArray) (v3 : Int) (v4 : Int) (v5 : ByteArray) : callK br Try.prog X116 M_value_Sub L_value_Sub (lsT []) 60 91 (encs [.i v0, .i v1, .s v2, .i v3, .i v4, .s v5] 0 S_value_Sub.ap) (encH [.i v0, .i v1, .s v2, .i v3, .i v4, .s v5] (ws S_value_Sub.ap) S_value_Sub.ah) (fun y => fixR Try.prog S_value_Sub.plan S_value_Sub.ah.length y) =
    (m_value_Sub [.i v0, .i v1, .s v2, .i v3, .i v4, .s v5]).go br (fun _ => none) S_value_Sub.fin := by
  rw [← callF_eq]; kernel_rfl
theorem e_value_Sub : EOK Try.prog 91 (gF S_value_Sub m_value_Sub) :=
  eokTold mixed named x116 (loopsOK_list rids noneIn) 60 S_value_Sub m_value_Sub (by
    intro us v h; unfold m_value_Sub at h; split at h
    · rename_i v0 v1 v2 v3 v4 v5; exact q_value_Sub v0 v1 v2 v3 v4 v5
    · cases h) false
noncomputable abbrev X117 : Ext := extT [(91, (gF S_value_Sub m_value_Sub))] X116
theorem x117 : XOK Try.prog X117 := xok1 x116 e_value_Sub

def L_value_amount : FuncId → Nat → Option (List Nat) := liveT []
def M_value_amount : FuncId → Bool := fun _ => false
def S_value_amount : FSp := ⟨[.one (.i .i64)], [], [], [([.one (.i .u64)], [])]⟩
noncomputable def m_value_amount : List U → Rt
  | [.i v0] =>
    (.test (decide (v0 < (0 : Int)))
    (.stop 0 [.i (IntKind.wrap IntKind.u64 ((0 : Int) - IntKind.wrap IntKind.u64 v0))])
    (.stop 0 [.i (IntKind.wrap IntKind.u64 v0)]))
  | _ => .fail
set_option maxRecDepth 100000 in
theorem q_value_amount (v0 : Int) : callK br Try.prog X117 M_value_amount L_value_amount (lsT []) 60 105 (encs [.i v0] 0 S_value_amount.ap) (encH [.i v0] (ws S_value_amount.ap) S_value_amount.ah) (fun y => fixR Try.prog S_value_amount.plan S_value_amount.ah.length y) =
    (m_value_amount [.i v0]).go br (fun _ => none) S_value_amount.fin := by
  rw [← callF_eq]; kernel_rfl
theorem e_value_amount : EOK Try.prog 105 (gF S_value_amount m_value_amount) :=
  eokTold mixed named x117 (loopsOK_list rids noneIn) 60 S_value_amount m_value_amount (by
    intro us v h; unfold m_value_amount at h; split at h
    · rename_i v0; exact q_value_amount v0
    · cases h) false
noncomputable abbrev X118 : Ext := extT [(105, (gF S_value_amount m_value_amount))] X117
theorem x118 : XOK Try.prog X118 := xok1 x117 e_value_amount

def L_value_Mul : FuncId → Nat → Option (List Nat) := liveT []
def M_value_Mul : FuncId → Bool := fun _ => false
def S_value_Mul : FSp := ⟨[.agg [.i .i64, .i .i64, .s], .agg [.i .i64, .i .i64, .s]], [], [], [([.agg [.i .i64, .i .i64, .s], .one (.b)], [])]⟩
noncomputable def m_value_Mul : List U → Rt
  | [.i v0, .i v1, .s v2, .i v3, .i v4, .s v5] =>
    (.test (v0 == (0 : Int))
    (.stop 0 [.i ((0 : Int)), .i ((0 : Int)), .s ({ data := #[] }), .b true])
    (.test (v3 == (0 : Int))
    (.stop 0 [.i ((0 : Int)), .i ((0 : Int)), .s ({ data := #[] }), .b true])
    (.test (v0 != (2 : Int))
    (.stop 0 [.i ((0 : Int)), .i ((0 : Int)), .s ({ data := #[] }), .b false])
    (.test (v3 != (2 : Int))
    (.stop 0 [.i ((0 : Int)), .i ((0 : Int)), .s ({ data := #[] }), .b false])
    (let r0 : Rs := (Rt.res (m_value_amount [U.i v1]))
    (.test (ok r0 0)
    (let r1 : Rs := (Rt.res (m_value_amount [U.i v4]))
    (.test (ok r1 0)
    (.test (inU64 (uI (out r0 0) 0) && inU64 (uI (out r1 0) 0))
    (.test (mulHi (uI (out r0 0) 0) (uI (out r1 0) 0) == (0 : Int))
    (.test (decide (mulLo (uI (out r0 0) 0) (uI (out r1 0) 0) < (9223372036854775808 : Int)))
    (.stop 0 [.i ((2 : Int)), .i (w64 (v1 * v4)), .s ({ data := #[] }), .b true])
    (.test (mulLo (uI (out r0 0) 0) (uI (out r1 0) 0) == (9223372036854775808 : Int))
    (.test (!!decide (v1 < (0 : Int)) == decide (v4 < (0 : Int)))
    (.stop 0 [.i ((0 : Int)), .i ((0 : Int)), .s ({ data := #[] }), .b false])
    (.stop 0 [.i ((2 : Int)), .i (w64 (v1 * v4)), .s ({ data := #[] }), .b true]))
    (.stop 0 [.i ((0 : Int)), .i ((0 : Int)), .s ({ data := #[] }), .b false])))
    (.stop 0 [.i ((0 : Int)), .i ((0 : Int)), .s ({ data := #[] }), .b false]))
    .fail)
    .fail))
    .fail))))))
  | _ => .fail
set_option maxRecDepth 100000 in
theorem q_value_Mul (v0 : Int) (v1 : Int) (v2 : ByteArray) (v3 : Int) (v4 : Int) (v5 : ByteArray) : callK br Try.prog X118 M_value_Mul L_value_Mul (lsT []) 60 92 (encs [.i v0, .i v1, .s v2, .i v3, .i v4, .s v5] 0 S_value_Mul.ap) (encH [.i v0, .i v1, .s v2, .i v3, .i v4, .s v5] (ws S_value_Mul.ap) S_value_Mul.ah) (fun y => fixR Try.prog S_value_Mul.plan S_value_Mul.ah.length y) =
    (m_value_Mul [.i v0, .i v1, .s v2, .i v3, .i v4, .s v5]).go br (fun _ => none) S_value_Mul.fin := by
  rw [← callF_eq]; kernel_rfl
theorem e_value_Mul : EOK Try.prog 92 (gF S_value_Mul m_value_Mul) :=
  eokTold mixed named x118 (loopsOK_list rids noneIn) 60 S_value_Mul m_value_Mul (by
    intro us v h; unfold m_value_Mul at h; split at h
    · rename_i v0 v1 v2 v3 v4 v5; exact q_value_Mul v0 v1 v2 v3 v4 v5
    · cases h) false
noncomputable abbrev X119 : Ext := extT [(92, (gF S_value_Mul m_value_Mul))] X118
theorem x119 : XOK Try.prog X119 := xok1 x118 e_value_Mul

def L_value_Truth : FuncId → Nat → Option (List Nat) := liveT []
def M_value_Truth : FuncId → Bool := fun _ => false
def S_value_Truth : FSp := ⟨[.one (.b)], [], [], [([.agg [.i .i64, .i .i64, .s]], [])]⟩
noncomputable def m_value_Truth : List U → Rt
  | [.b v0] =>
    (.test v0
    (.stop 0 [.i ((1 : Int)), .i ((1 : Int)), .s ({ data := #[] })])
    (.stop 0 [.i ((1 : Int)), .i ((0 : Int)), .s ({ data := #[] })]))
  | _ => .fail
set_option maxRecDepth 100000 in
theorem q_value_Truth (v0 : Bool) : callK br Try.prog X119 M_value_Truth L_value_Truth (lsT []) 60 62 (encs [.b v0] 0 S_value_Truth.ap) (encH [.b v0] (ws S_value_Truth.ap) S_value_Truth.ah) (fun y => fixR Try.prog S_value_Truth.plan S_value_Truth.ah.length y) =
    (m_value_Truth [.b v0]).go br (fun _ => none) S_value_Truth.fin := by
  rw [← callF_eq]; kernel_rfl
theorem e_value_Truth : EOK Try.prog 62 (gF S_value_Truth m_value_Truth) :=
  eokTold mixed named x119 (loopsOK_list rids noneIn) 60 S_value_Truth m_value_Truth (by
    intro us v h; unfold m_value_Truth at h; split at h
    · rename_i v0; exact q_value_Truth v0
    · cases h) false
noncomputable abbrev X120 : Ext := extT [(62, (gF S_value_Truth m_value_Truth))] X119
theorem x120 : XOK Try.prog X120 := xok1 x119 e_value_Truth

def L_slices_Index_ : FuncId → Nat → Option (List Nat) := liveT [(111, 2, [0, 3, 7, 8]), (111, 1000002, []), (111, 2000002, [4])]
def M_slices_Index_ : FuncId → Bool := fun _ => false
noncomputable def rd_slices_Index__111_2 : List U → Rt
  | [.l v0, .i v1, .i v2, .i v3, .i v4, .s v5] =>
    (.test (decide (v2 < v1))
    (.test (inR v2 (ln v0))
    (.test (v3 == cI (el v0 v2) 0 && (v4 == cI (el v0 v2) 1 && (ByteArray.toList v5 == ByteArray.toList (cS (el v0 v2) 2) && true)))
    (.stop 0 [.i v2])
    (.next [.l v0, .i v1, .i (w64 (v2 + (1 : Int))), .i v3, .i v4, .s v5]))
    .fail)
    (.stop 1 []))
  | _ => .fail
def sp_slices_Index__111_2 : LSp := ⟨19, ⟨[(0, .one (.l 48)), (3, .one (.ptr 0 0)), (7, .one (.i .i64)), (8, .one (.i .i64))], [.box 48 [.one (.i .i64), .one (.i .i64), .one (.s)]]⟩, [(.ret, ⟨[(4, .one (.i .i64))], []⟩), (.exit 0, ⟨[], []⟩)]⟩
set_option maxRecDepth 100000 in
theorem rq_slices_Index__111_2 (v0 : List (List PV)) (v1 : Int) (v2 : Int) (v3 : Int) (v4 : Int) (v5 : ByteArray) : runK br Try.prog (callK br Try.prog X120 M_slices_Index_ L_slices_Index_ (lsT []) 40) M_slices_Index_ (lsT [] 111 0) 40 0 (L_slices_Index_ 111) (bodyOf Try.prog 111 2) (sp_slices_Index__111_2.s.ts sp_slices_Index__111_2.n [.l v0, .i v1, .i v2, .i v3, .i v4, .s v5]) (sp_slices_Index__111_2.s.h [.l v0, .i v1, .i v2, .i v3, .i v4, .s v5]) (idc Try.prog 0 (L_slices_Index_ 111) 2) =
    (rd_slices_Index__111_2 [.l v0, .i v1, .i v2, .i v3, .i v4, .s v5]).go br (fun us' => some (.normal, sp_slices_Index__111_2.s.ts sp_slices_Index__111_2.n us', sp_slices_Index__111_2.s.h us')) sp_slices_Index__111_2.fin := by
  rw [← callF_eq, ← runF_eq]; kernel_rfl
theorem lo_slices_Index__111_2 {R : Type} : LoopTells Try.prog X120 M_slices_Index_ L_slices_Index_ 0 (L_slices_Index_ 111) (bodyOf Try.prog 111 2) (gL (R := R) sp_slices_Index__111_2 rd_slices_Index__111_2 br) :=
  loopTold (callK_ev (loopsOK_list rids noneIn) 40) (lsokIn (loopsOK_list rids noneIn) 111 0 2) (by kernel_rfl) sp_slices_Index__111_2 rd_slices_Index__111_2 rfl (by kernel_rfl) (by
    intro us v h; unfold rd_slices_Index__111_2 at h; split at h
    · rename_i v0 v1 v2 v3 v4 v5; exact rq_slices_Index__111_2 v0 v1 v2 v3 v4 v5
    · cases h)
noncomputable abbrev ll_slices_Index__111_2 {R : Type} : List (Nat × Nat × Nat × Smy R) := (111, 0, 2, gL sp_slices_Index__111_2 rd_slices_Index__111_2 br) :: []
theorem lk_slices_Index__111_2 {R : Type} : ∀ e ∈ ll_slices_Index__111_2 (R := R), LoopTells Try.prog X120 M_slices_Index_ L_slices_Index_ e.2.1 (L_slices_Index_ e.1) (bodyOf Try.prog e.1 e.2.2.1) e.2.2.2 := List.forall_mem_cons.2 ⟨lo_slices_Index__111_2, noneIn⟩
def S_slices_Index_ : FSp := ⟨[.one (.l 48), .agg [.i .i64, .i .i64, .s]], [], [], [([.one (.i .i64)], [])]⟩
noncomputable def m_slices_Index_ : List U → Rt
  | [.l v0, .i v1, .i v2, .s v3] =>
    (let r0 : Rs := (lres rd_slices_Index__111_2 [U.l v0, U.i (ln v0), U.i (0 : Int), U.i v1, U.i v2, U.s v3])
    (.test (ok r0 0)
    (.stop 0 [.i (uI (out r0 0) 0)])
    (.test (ok r0 1)
    (.stop 0 [.i ((-1 : Int))])
    .fail)))
  | _ => .fail
set_option maxRecDepth 100000 in
theorem q_slices_Index_ (v0 : List (List PV)) (v1 : Int) (v2 : Int) (v3 : ByteArray) : callK br Try.prog X120 M_slices_Index_ L_slices_Index_ (lsT ll_slices_Index__111_2) 60 111 (encs [.l v0, .i v1, .i v2, .s v3] 0 S_slices_Index_.ap) (encH [.l v0, .i v1, .i v2, .s v3] (ws S_slices_Index_.ap) S_slices_Index_.ah) (fun y => fixR Try.prog S_slices_Index_.plan S_slices_Index_.ah.length y) =
    (m_slices_Index_ [.l v0, .i v1, .i v2, .s v3]).go br (fun _ => none) S_slices_Index_.fin := by
  rw [← callF_eq]; kernel_rfl
theorem e_slices_Index_ : EOK Try.prog 111 (gF S_slices_Index_ m_slices_Index_) :=
  eokTold mixed named x120 (loopsOK_list rids lk_slices_Index__111_2) 60 S_slices_Index_ m_slices_Index_ (by
    intro us v h; unfold m_slices_Index_ at h; split at h
    · rename_i v0 v1 v2 v3; exact q_slices_Index_ v0 v1 v2 v3
    · cases h) false
noncomputable abbrev X121 : Ext := extT [(111, (gF S_slices_Index_ m_slices_Index_))] X120
theorem x121 : XOK Try.prog X121 := xok1 x120 e_slices_Index_

def L_slices_Contains_ : FuncId → Nat → Option (List Nat) := liveT []
def M_slices_Contains_ : FuncId → Bool := fun _ => false
def S_slices_Contains_ : FSp := ⟨[.one (.l 48), .agg [.i .i64, .i .i64, .s]], [], [], [([.one (.b)], [])]⟩
noncomputable def m_slices_Contains_ : List U → Rt
  | [.l v0, .i v1, .i v2, .s v3] =>
    (let r0 : Rs := (Rt.res (m_slices_Index_ [U.l v0, U.i v1, U.i v2, U.s v3]))
    (.test (ok r0 0)
    (.stop 0 [.b (decide (uI (out r0 0) 0 ≥ (0 : Int)))])
    .fail))
  | _ => .fail
set_option maxRecDepth 100000 in
theorem q_slices_Contains_ (v0 : List (List PV)) (v1 : Int) (v2 : Int) (v3 : ByteArray) : callK br Try.prog X121 M_slices_Contains_ L_slices_Contains_ (lsT []) 60 108 (encs [.l v0, .i v1, .i v2, .s v3] 0 S_slices_Contains_.ap) (encH [.l v0, .i v1, .i v2, .s v3] (ws S_slices_Contains_.ap) S_slices_Contains_.ah) (fun y => fixR Try.prog S_slices_Contains_.plan S_slices_Contains_.ah.length y) =
    (m_slices_Contains_ [.l v0, .i v1, .i v2, .s v3]).go br (fun _ => none) S_slices_Contains_.fin := by
  rw [← callF_eq]; kernel_rfl
theorem e_slices_Contains_ : EOK Try.prog 108 (gF S_slices_Contains_ m_slices_Contains_) :=
  eokTold mixed named x121 (loopsOK_list rids noneIn) 60 S_slices_Contains_ m_slices_Contains_ (by
    intro us v h; unfold m_slices_Contains_ at h; split at h
    · rename_i v0 v1 v2 v3; exact q_slices_Contains_ v0 v1 v2 v3
    · cases h) false
noncomputable abbrev X122 : Ext := extT [(108, (gF S_slices_Contains_ m_slices_Contains_))] X121
theorem x122 : XOK Try.prog X122 := xok1 x121 e_slices_Contains_

def L_value_fold : FuncId → Nat → Option (List Nat) := liveT [(112, 2, [0, 1, 7, 8]), (112, 1000002, []), (112, 2000002, [4])]
def M_value_fold : FuncId → Bool := fun _ => false
noncomputable def rd_value_fold_112_2 : List U → Rt
  | [.l v0, .i v1, .i v2, .i v3, .i v4, .s v5] =>
    (.test (decide (v2 < v1))
    (.test (inR v2 (ln v0))
    (.test (!(cI (el v0 v2) 0 == v3 && (cI (el v0 v2) 1 == v4 && (ByteArray.toList (cS (el v0 v2) 2) == ByteArray.toList v5 && true))))
    (.stop 0 [.i v2, .i v3, .i v4, .s v5])
    (.next [.l v0, .i v1, .i (w64 (v2 + (1 : Int))), .i v3, .i v4, .s v5]))
    .fail)
    (.stop 1 [.i v3, .i v4, .s v5]))
  | _ => .fail
def sp_value_fold_112_2 : LSp := ⟨19, ⟨[(0, .one (.l 48)), (1, .fn 110 [.ptr 0 0]), (7, .one (.i .i64)), (8, .one (.i .i64))], [.box 48 [.one (.i .i64), .one (.i .i64), .one (.s)]]⟩, [(.ret, ⟨[(4, .one (.i .i64))], [.box 48 [.one (.i .i64), .one (.i .i64), .one (.s)]]⟩), (.exit 0, ⟨[], [.box 48 [.one (.i .i64), .one (.i .i64), .one (.s)]]⟩)]⟩
set_option maxRecDepth 100000 in
theorem rq_value_fold_112_2 (v0 : List (List PV)) (v1 : Int) (v2 : Int) (v3 : Int) (v4 : Int) (v5 : ByteArray) : runK br Try.prog (callK br Try.prog X122 M_value_fold L_value_fold (lsT []) 40) M_value_fold (lsT [] 112 1) 40 1 (L_value_fold 112) (bodyOf Try.prog 112 2) (sp_value_fold_112_2.s.ts sp_value_fold_112_2.n [.l v0, .i v1, .i v2, .i v3, .i v4, .s v5]) (sp_value_fold_112_2.s.h [.l v0, .i v1, .i v2, .i v3, .i v4, .s v5]) (idc Try.prog 1 (L_value_fold 112) 2) =
    (rd_value_fold_112_2 [.l v0, .i v1, .i v2, .i v3, .i v4, .s v5]).go br (fun us' => some (.normal, sp_value_fold_112_2.s.ts sp_value_fold_112_2.n us', sp_value_fold_112_2.s.h us')) sp_value_fold_112_2.fin := by
  rw [← callF_eq, ← runF_eq]; kernel_rfl
theorem lo_value_fold_112_2 {R : Type} : LoopTells Try.prog X122 M_value_fold L_value_fold 1 (L_value_fold 112) (bodyOf Try.prog 112 2) (gL (R := R) sp_value_fold_112_2 rd_value_fold_112_2 br) :=
  loopTold (callK_ev (loopsOK_list rids noneIn) 40) (lsokIn (loopsOK_list rids noneIn) 112 1 2) (by kernel_rfl) sp_value_fold_112_2 rd_value_fold_112_2 rfl (by kernel_rfl) (by
    intro us v h; unfold rd_value_fold_112_2 at h; split at h
    · rename_i v0 v1 v2 v3 v4 v5; exact rq_value_fold_112_2 v0 v1 v2 v3 v4 v5
    · cases h)
noncomputable abbrev ll_value_fold_112_2 {R : Type} : List (Nat × Nat × Nat × Smy R) := (112, 1, 2, gL sp_value_fold_112_2 rd_value_fold_112_2 br) :: []
theorem lk_value_fold_112_2 {R : Type} : ∀ e ∈ ll_value_fold_112_2 (R := R), LoopTells Try.prog X122 M_value_fold L_value_fold e.2.1 (L_value_fold e.1) (bodyOf Try.prog e.1 e.2.2.1) e.2.2.2 := List.forall_mem_cons.2 ⟨lo_value_fold_112_2, noneIn⟩
def S_value_fold : FSp := ⟨[.one (.b), .one (.l 48)], [], [], [([.agg [.i .i64, .i .i64, .s]], [])]⟩
noncomputable def m_value_fold : List U → Rt
  | [.b v0, .l v1] =>
    (let r0 : Rs := (Rt.res (m_value_Truth [U.b v0]))
    (.test (ok r0 0)
    (let r1 : Rs := (Rt.res (m_value_Truth [U.b !v0]))
    (.test (ok r1 0)
    (let r2 : Rs := (Rt.res (m_slices_Contains_ [U.l v1, U.i (uI (out r0 0) 0), U.i (uI (out r0 0) 1), U.s (uS (out r0 0) 2)]))
    (.test (ok r2 0)
    (.test (uB (out r2 0) 0)
    (.stop 0 [.i (uI (out r0 0) 0), .i (uI (out r0 0) 1), .s (uS (out r0 0) 2)])
    (let r3 : Rs := (lres rd_value_fold_112_2 [U.l v1, U.i (ln v1), U.i (0 : Int), U.i (uI (out r1 0) 0), U.i (uI (out r1 0) 1), U.s (uS (out r1 0) 2)])
    (.test (ok r3 0)
    (.test (decide (uI (out r3 0) 0 ≥ (0 : Int)))
    (.stop 0 [.i ((0 : Int)), .i ((0 : Int)), .s ({ data := #[] })])
    (.stop 0 [.i (uI (out r3 0) 1), .i (uI (out r3 0) 2), .s (uS (out r3 0) 3)]))
    (.test (ok r3 1)
    (.stop 0 [.i (uI (out r3 1) 0), .i (uI (out r3 1) 1), .s (uS (out r3 1) 2)])
    .fail))))
    .fail))
    .fail))
    .fail))
  | _ => .fail
set_option maxRecDepth 100000 in
theorem q_value_fold (v0 : Bool) (v1 : List (List PV)) : callK br Try.prog X122 M_value_fold L_value_fold (lsT ll_value_fold_112_2) 60 106 (encs [.b v0, .l v1] 0 S_value_fold.ap) (encH [.b v0, .l v1] (ws S_value_fold.ap) S_value_fold.ah) (fun y => fixR Try.prog S_value_fold.plan S_value_fold.ah.length y) =
    (m_value_fold [.b v0, .l v1]).go br (fun _ => none) S_value_fold.fin := by
  rw [← callF_eq]; kernel_rfl
theorem e_value_fold : EOK Try.prog 106 (gF S_value_fold m_value_fold) :=
  eokTold mixed named x122 (loopsOK_list rids lk_value_fold_112_2) 60 S_value_fold m_value_fold (by
    intro us v h; unfold m_value_fold at h; split at h
    · rename_i v0 v1; exact q_value_fold v0 v1
    · cases h) false
noncomputable abbrev X123 : Ext := extT [(106, (gF S_value_fold m_value_fold))] X122
theorem x123 : XOK Try.prog X123 := xok1 x122 e_value_fold

def L_value_And : FuncId → Nat → Option (List Nat) := liveT []
def M_value_And : FuncId → Bool := fun _ => false
def S_value_And : FSp := ⟨[.one (.l 48)], [], [], [([.agg [.i .i64, .i .i64, .s]], [])]⟩
noncomputable def m_value_And : List U → Rt
  | [.l v0] =>
    (let r0 : Rs := (Rt.res (m_value_fold [U.b false, U.l v0]))
    (.test (ok r0 0)
    (.stop 0 [.i (uI (out r0 0) 0), .i (uI (out r0 0) 1), .s (uS (out r0 0) 2)])
    .fail))
  | _ => .fail
set_option maxRecDepth 100000 in
theorem q_value_And (v0 : List (List PV)) : callK br Try.prog X123 M_value_And L_value_And (lsT []) 60 93 (encs [.l v0] 0 S_value_And.ap) (encH [.l v0] (ws S_value_And.ap) S_value_And.ah) (fun y => fixR Try.prog S_value_And.plan S_value_And.ah.length y) =
    (m_value_And [.l v0]).go br (fun _ => none) S_value_And.fin := by
  rw [← callF_eq]; kernel_rfl
theorem e_value_And : EOK Try.prog 93 (gF S_value_And m_value_And) :=
  eokTold mixed named x123 (loopsOK_list rids noneIn) 60 S_value_And m_value_And (by
    intro us v h; unfold m_value_And at h; split at h
    · rename_i v0; exact q_value_And v0
    · cases h) false
noncomputable abbrev X124 : Ext := extT [(93, (gF S_value_And m_value_And))] X123
theorem x124 : XOK Try.prog X124 := xok1 x123 e_value_And

def L_value_Or : FuncId → Nat → Option (List Nat) := liveT []
def M_value_Or : FuncId → Bool := fun _ => false
def S_value_Or : FSp := ⟨[.one (.l 48)], [], [], [([.agg [.i .i64, .i .i64, .s]], [])]⟩
noncomputable def m_value_Or : List U → Rt
  | [.l v0] =>
    (let r0 : Rs := (Rt.res (m_value_fold [U.b true, U.l v0]))
    (.test (ok r0 0)
    (.stop 0 [.i (uI (out r0 0) 0), .i (uI (out r0 0) 1), .s (uS (out r0 0) 2)])
    .fail))
  | _ => .fail
set_option maxRecDepth 100000 in
theorem q_value_Or (v0 : List (List PV)) : callK br Try.prog X124 M_value_Or L_value_Or (lsT []) 60 94 (encs [.l v0] 0 S_value_Or.ap) (encH [.l v0] (ws S_value_Or.ap) S_value_Or.ah) (fun y => fixR Try.prog S_value_Or.plan S_value_Or.ah.length y) =
    (m_value_Or [.l v0]).go br (fun _ => none) S_value_Or.fin := by
  rw [← callF_eq]; kernel_rfl
theorem e_value_Or : EOK Try.prog 94 (gF S_value_Or m_value_Or) :=
  eokTold mixed named x124 (loopsOK_list rids noneIn) 60 S_value_Or m_value_Or (by
    intro us v h; unfold m_value_Or at h; split at h
    · rename_i v0; exact q_value_Or v0
    · cases h) false
noncomputable abbrev X125 : Ext := extT [(94, (gF S_value_Or m_value_Or))] X124
theorem x125 : XOK Try.prog X125 := xok1 x124 e_value_Or

def L_value_Not : FuncId → Nat → Option (List Nat) := liveT []
def M_value_Not : FuncId → Bool := fun _ => false
def S_value_Not : FSp := ⟨[.agg [.i .i64, .i .i64, .s]], [], [], [([.agg [.i .i64, .i .i64, .s]], [])]⟩
noncomputable def m_value_Not : List U → Rt
  | [.i v0, .i v1, .s v2] =>
    (.test (v0 == (1 : Int) && (v1 == (1 : Int) && (ByteArray.toList v2 == [] && true)))
    (.stop 0 [.i ((1 : Int)), .i ((0 : Int)), .s ({ data := #[] })])
    (.test (v0 == (1 : Int) && (v1 == (0 : Int) && (ByteArray.toList v2 == [] && true)))
    (.stop 0 [.i ((1 : Int)), .i ((1 : Int)), .s ({ data := #[] })])
    (.stop 0 [.i ((0 : Int)), .i ((0 : Int)), .s ({ data := #[] })])))
  | _ => .fail
set_option maxRecDepth 100000 in
theorem q_value_Not (v0 : Int) (v1 : Int) (v2 : ByteArray) : callK br Try.prog X125 M_value_Not L_value_Not (lsT []) 60 95 (encs [.i v0, .i v1, .s v2] 0 S_value_Not.ap) (encH [.i v0, .i v1, .s v2] (ws S_value_Not.ap) S_value_Not.ah) (fun y => fixR Try.prog S_value_Not.plan S_value_Not.ah.length y) =
    (m_value_Not [.i v0, .i v1, .s v2]).go br (fun _ => none) S_value_Not.fin := by
  rw [← callF_eq]; kernel_rfl
theorem e_value_Not : EOK Try.prog 95 (gF S_value_Not m_value_Not) :=
  eokTold mixed named x125 (loopsOK_list rids noneIn) 60 S_value_Not m_value_Not (by
    intro us v h; unfold m_value_Not at h; split at h
    · rename_i v0 v1 v2; exact q_value_Not v0 v1 v2
    · cases h) false
noncomputable abbrev X126 : Ext := extT [(95, (gF S_value_Not m_value_Not))] X125
theorem x126 : XOK Try.prog X126 := xok1 x125 e_value_Not

def L_expr_compare : FuncId → Nat → Option (List Nat) := liveT []
def M_expr_compare : FuncId → Bool := fun _ => false
def S_expr_compare : FSp := ⟨[.one (.i .i64), .agg [.i .i64, .i .i64, .s], .agg [.i .i64, .i .i64, .s]], [], [], [([.agg [.i .i64, .i .i64, .s]], [])]⟩
noncomputable def m_expr_compare : List U → Rt
  | [.i v0, .i v1, .i v2, .s v3, .i v4, .i v5, .s v6] =>
    (.test (v1 == (0 : Int))
    (.stop 0 [.i ((0 : Int)), .i ((0 : Int)), .s ({ data := #[] })])
    (.test (v4 == (0 : Int))
    (.stop 0 [.i ((0 : Int)), .i ((0 : Int)), .s ({ data := #[] })])
    (let r0 : Rs := (Rt.res (m_value_Compare [U.i v1, U.i v2, U.s v3, U.i v4, U.i v5, U.s v6]))
    (.test (ok r0 0)
    (.test (v0 == (5 : Int))
    (.test (uI (out r0 0) 0 == (0 : Int))
    (.stop 0 [.i ((1 : Int)), .i ((1 : Int)), .s ({ data := #[] })])
    (.test (v0 == (6 : Int))
    (let r1 : Rs := (Rt.res (m_value_Truth [U.b (decide (uI (out r0 0) 0 < (0 : Int)))]))
    (.test (ok r1 0)
    (.stop 0 [.i (uI (out r1 0) 0), .i (uI (out r1 0) 1), .s (uS (out r1 0) 2)])
    .fail))
    (.stop 0 [.i ((1 : Int)), .i ((0 : Int)), .s ({ data := #[] })])))
    (.test (v0 == (6 : Int))
    (let r2 : Rs := (Rt.res (m_value_Truth [U.b (decide (uI (out r0 0) 0 < (0 : Int)))]))
    (.test (ok r2 0)
    (.stop 0 [.i (uI (out r2 0) 0), .i (uI (out r2 0) 1), .s (uS (out r2 0) 2)])
    .fail))
    (.stop 0 [.i ((1 : Int)), .i ((0 : Int)), .s ({ data := #[] })])))
    .fail))))
  | _ => .fail
set_option maxRecDepth 100000 in
theorem q_expr_compare (v0 : Int) (v1 : Int) (v2 : Int) (v3 : ByteArray) (v4 : Int) (v5 : Int) (v6 : ByteArray) : callK br Try.prog X126 M_expr_compare L_expr_compare (lsT []) 60 96 (encs [.i v0, .i v1, .i v2, .s v3, .i v4, .i v5, .s v6] 0 S_expr_compare.ap) (encH [.i v0, .i v1, .i v2, .s v3, .i v4, .i v5, .s v6] (ws S_expr_compare.ap) S_expr_compare.ah) (fun y => fixR Try.prog S_expr_compare.plan S_expr_compare.ah.length y) =
    (m_expr_compare [.i v0, .i v1, .i v2, .s v3, .i v4, .i v5, .s v6]).go br (fun _ => none) S_expr_compare.fin := by
  rw [← callF_eq]; kernel_rfl
theorem e_expr_compare : EOK Try.prog 96 (gF S_expr_compare m_expr_compare) :=
  eokTold mixed named x126 (loopsOK_list rids noneIn) 60 S_expr_compare m_expr_compare (by
    intro us v h; unfold m_expr_compare at h; split at h
    · rename_i v0 v1 v2 v3 v4 v5 v6; exact q_expr_compare v0 v1 v2 v3 v4 v5 v6
    · cases h) false
noncomputable abbrev X127 : Ext := extT [(96, (gF S_expr_compare m_expr_compare))] X126
theorem x127 : XOK Try.prog X127 := xok1 x126 e_expr_compare

def L_expr_do : FuncId → Nat → Option (List Nat) := liveT []
def M_expr_do : FuncId → Bool := fun _ => false
def S_expr_do : FSp := ⟨[.one (.i .i64), .agg [.i .i64, .i .i64, .s], .agg [.i .i64, .i .i64, .s]], [], [], [([.agg [.i .i64, .i .i64, .s], .one (.b)], [])]⟩
noncomputable def m_expr_do : List U → Rt
  | [.i v0, .i v1, .i v2, .s v3, .i v4, .i v5, .s v6] =>
    (.test (v0 == (2 : Int))
    (let r0 : Rs := (Rt.res (m_value_Add [U.i v1, U.i v2, U.s v3, U.i v4, U.i v5, U.s v6]))
    (.test (ok r0 0)
    (.stop 0 [.i (uI (out r0 0) 0), .i (uI (out r0 0) 1), .s (uS (out r0 0) 2), .b (uB (out r0 0) 3)])
    .fail))
    (.test (v0 == (3 : Int))
    (let r1 : Rs := (Rt.res (m_value_Sub [U.i v1, U.i v2, U.s v3, U.i v4, U.i v5, U.s v6]))
    (.test (ok r1 0)
    (.stop 0 [.i (uI (out r1 0) 0), .i (uI (out r1 0) 1), .s (uS (out r1 0) 2), .b (uB (out r1 0) 3)])
    .fail))
    (.test (v0 == (4 : Int))
    (let r2 : Rs := (Rt.res (m_value_Mul [U.i v1, U.i v2, U.s v3, U.i v4, U.i v5, U.s v6]))
    (.test (ok r2 0)
    (.stop 0 [.i (uI (out r2 0) 0), .i (uI (out r2 0) 1), .s (uS (out r2 0) 2), .b (uB (out r2 0) 3)])
    .fail))
    (.test (v0 == (7 : Int))
    (let r3 : Rs := (Rt.res (m_value_And [U.l [[pI v1, pI v2, pS v3], [pI v4, pI v5, pS v6]]]))
    (.test (ok r3 0)
    (.stop 0 [.i (uI (out r3 0) 0), .i (uI (out r3 0) 1), .s (uS (out r3 0) 2), .b true])
    .fail))
    (.test (v0 == (8 : Int))
    (let r4 : Rs := (Rt.res (m_value_Or [U.l [[pI v1, pI v2, pS v3], [pI v4, pI v5, pS v6]]]))
    (.test (ok r4 0)
    (.stop 0 [.i (uI (out r4 0) 0), .i (uI (out r4 0) 1), .s (uS (out r4 0) 2), .b true])
    .fail))
    (.test (v0 == (9 : Int))
    (let r5 : Rs := (Rt.res (m_value_Not [U.i v4, U.i v5, U.s v6]))
    (.test (ok r5 0)
    (.stop 0 [.i (uI (out r5 0) 0), .i (uI (out r5 0) 1), .s (uS (out r5 0) 2), .b true])
    .fail))
    (.test (v0 == (10 : Int))
    (let r6 : Rs := (Rt.res (m_value_Truth [U.b (v4 == (0 : Int))]))
    (.test (ok r6 0)
    (.stop 0 [.i (uI (out r6 0) 0), .i (uI (out r6 0) 1), .s (uS (out r6 0) 2), .b true])
    .fail))
    (let r7 : Rs := (Rt.res (m_expr_compare [U.i v0, U.i v1, U.i v2, U.s v3, U.i v4, U.i v5, U.s v6]))
    (.test (ok r7 0)
    (.stop 0 [.i (uI (out r7 0) 0), .i (uI (out r7 0) 1), .s (uS (out r7 0) 2), .b true])
    .fail)))))))))
  | _ => .fail
set_option maxRecDepth 100000 in
theorem q_expr_do (v0 : Int) (v1 : Int) (v2 : Int) (v3 : ByteArray) (v4 : Int) (v5 : Int) (v6 : ByteArray) : callK br Try.prog X127 M_expr_do L_expr_do (lsT []) 60 84 (encs [.i v0, .i v1, .i v2, .s v3, .i v4, .i v5, .s v6] 0 S_expr_do.ap) (encH [.i v0, .i v1, .i v2, .s v3, .i v4, .i v5, .s v6] (ws S_expr_do.ap) S_expr_do.ah) (fun y => fixR Try.prog S_expr_do.plan S_expr_do.ah.length y) =
    (m_expr_do [.i v0, .i v1, .i v2, .s v3, .i v4, .i v5, .s v6]).go br (fun _ => none) S_expr_do.fin := by
  rw [← callF_eq]; kernel_rfl
theorem e_expr_do : EOK Try.prog 84 (gF S_expr_do m_expr_do) :=
  eokTold mixed named x127 (loopsOK_list rids noneIn) 60 S_expr_do m_expr_do (by
    intro us v h; unfold m_expr_do at h; split at h
    · rename_i v0 v1 v2 v3 v4 v5 v6; exact q_expr_do v0 v1 v2 v3 v4 v5 v6
    · cases h) false
noncomputable abbrev X128 : Ext := extT [(84, (gF S_expr_do m_expr_do))] X127
theorem x128 : XOK Try.prog X128 := xok1 x127 e_expr_do

def L_expr_Eval : FuncId → Nat → Option (List Nat) := liveT [(61, 6, [4, 6, 23, 24, 25] ++ [1000097000006]), (61, 1000006, [4, 6]), (61, 2000006, [4, 5])]
def M_expr_Eval : FuncId → Bool := fun _ => false
noncomputable def rd_expr_Eval_61_6 : List U → Rt
  | [.l v0, .i v1, .i v2, .i v3, .i v4, .s v5, .b v6, .l v7, .l v8] =>
    (.test (decide (v2 < v1))
    (.test (inR v2 (ln v0))
    (let r0 : Rs := (Rt.res (m_expr_takes [U.i (cI (el v0 v2) 0)]))
    (.test (ok r0 0)
    (.test (decide (uI (out r0 0) 0 > (0 : Int)))
    (.test (ln v8 == (0 : Int))
    (.test (decide (uI (out r0 0) 0 > (1 : Int)))
    (.test (ln v8 == (0 : Int))
    (.stop 0 [.i ((30 : Int)), .i ((0 : Int)), .i ((0 : Int)), .s ({ data := #[] })])
    (.test (inR (w64 (ln v8 - (1 : Int))) (ln v8))
    (.test (decide (Int.toNat (w64 (ln v8 - (1 : Int))) < List.length v8))
    (.test (decide ((0 : Int) ≤ (0 : Int) ∧ (0 : Int) ≤ w64 (ln v8 - (1 : Int)) ∧ w64 (ln v8 - (1 : Int)) ≤ ln v8))
    (.stop 0 [.i ((30 : Int)), .i ((0 : Int)), .i ((0 : Int)), .s ({ data := #[] })])
    .fail)
    .fail)
    .fail))
    (.stop 0 [.i ((30 : Int)), .i ((0 : Int)), .i ((0 : Int)), .s ({ data := #[] })]))
    (.test (inR (w64 (ln v8 - (1 : Int))) (ln v8))
    (.test (decide (Int.toNat (w64 (ln v8 - (1 : Int))) < List.length v8))
    (.test (decide ((0 : Int) ≤ (0 : Int) ∧ (0 : Int) ≤ w64 (ln v8 - (1 : Int)) ∧ w64 (ln v8 - (1 : Int)) ≤ ln v8))
    (.test (decide (uI (out r0 0) 0 > (1 : Int)))
    (.test (decide (0 + (Int.toNat (w64 (ln v8 - (1 : Int))) - 0) ≤ List.length v8))
    (.test ((↑(Int.toNat (w64 (ln v8 - (1 : Int))) - 0) : Int) == (0 : Int))
    (.stop 0 [.i ((30 : Int)), .i ((0 : Int)), .i ((0 : Int)), .s ({ data := #[] })])
    (.test (decide (0 + (Int.toNat (w64 (ln v8 - (1 : Int))) - 0) ≤ List.length v8))
    (.test (decide ((0 : Int) ≤ w64 ((↑(Int.toNat (w64 (ln v8 - (1 : Int))) - 0) : Int) - (1 : Int)) ∧ w64 ((↑(Int.toNat (w64 (ln v8 - (1 : Int))) - 0) : Int) - (1 : Int)) < (↑(Int.toNat (w64 (ln v8 - (1 : Int))) - 0) : Int) ∧ 0 + Int.toNat (w64 ((↑(Int.toNat (w64 (ln v8 - (1 : Int))) - 0) : Int) - (1 : Int))) < List.length v8))
    (.test (decide (0 + Int.toNat (w64 ((↑(Int.toNat (w64 (ln v8 - (1 : Int))) - 0) : Int) - (1 : Int))) < List.length v8))
    (.test (decide (0 + (Int.toNat (w64 (ln v8 - (1 : Int))) - 0) ≤ List.length v8))
    (.test (decide ((0 : Int) ≤ (0 : Int) ∧ (0 : Int) ≤ w64 ((↑(Int.toNat (w64 (ln v8 - (1 : Int))) - 0) : Int) - (1 : Int)) ∧ w64 ((↑(Int.toNat (w64 (ln v8 - (1 : Int))) - 0) : Int) - (1 : Int)) ≤ (↑(Int.toNat (w64 (ln v8 - (1 : Int))) - 0) : Int)))
    (.test (!v6)
    (.stop 0 [.i ((30 : Int)), .i ((0 : Int)), .i ((0 : Int)), .s ({ data := #[] })])
    (.test (decide (uI (out r0 0) 0 < (0 : Int)))
    (.stop 0 [.i ((30 : Int)), .i ((0 : Int)), .i ((0 : Int)), .s ({ data := #[] })])
    (.test (cI (el v0 v2) 0 == (0 : Int))
    (.test (decide (cI (el v0 v2) 1 < (0 : Int)))
    (.stop 0 [.i ((30 : Int)), .i ((0 : Int)), .i ((0 : Int)), .s ({ data := #[] })])
    (.test (decide (cI (el v0 v2) 1 ≥ ln v7))
    (.stop 0 [.i ((30 : Int)), .i ((0 : Int)), .i ((0 : Int)), .s ({ data := #[] })])
    (.test (inR (cI (el v0 v2) 1) (ln v7))
    (.test (decide (0 + (Int.toNat (w64 ((↑(Int.toNat (w64 (ln v8 - (1 : Int))) - 0) : Int) - (1 : Int))) - 0) ≤ List.length v8))
    (.test (decide ((List.length (List.take (Int.toNat (w64 ((↑(Int.toNat (w64 (ln v8 - (1 : Int))) - 0) : Int) - (1 : Int))) - 0) v8) + 1) * 32 ≤ 140737488355328))
    (.next [.l v0, .i v1, .i (w64 (v2 + (1 : Int))), .i v3, .i v4, .s v5, .b v6, .l v7, .l (List.take (Int.toNat (w64 ((↑(Int.toNat (w64 (ln v8 - (1 : Int))) - 0) : Int) - (1 : Int))) - 0) v8 ++ [[pI (cI (el v7 (cI (el v0 v2) 1)) 0), pI (cI (el v7 (cI (el v0 v2) 1)) 1), pS (cS (el v7 (cI (el v0 v2) 1)) 2)]])])
    .fail)
    .fail)
    .fail)))
    (.test (cI (el v0 v2) 0 == (1 : Int))
    (let r1 : Rs := (Rt.res (m_value_May [U.i (cI (el v0 v2) 2), U.i (cI (el v0 v2) 3), U.s (cS (el v0 v2) 4)]))
    (.test (ok r1 0)
    (.test (!uB (out r1 0) 0)
    (.stop 0 [.i ((30 : Int)), .i ((0 : Int)), .i ((0 : Int)), .s ({ data := #[] })])
    (.test (decide (0 + (Int.toNat (w64 ((↑(Int.toNat (w64 (ln v8 - (1 : Int))) - 0) : Int) - (1 : Int))) - 0) ≤ List.length v8))
    (.test (decide ((List.length (List.take (Int.toNat (w64 ((↑(Int.toNat (w64 (ln v8 - (1 : Int))) - 0) : Int) - (1 : Int))) - 0) v8) + 1) * 32 ≤ 140737488355328))
    (.next [.l v0, .i v1, .i (w64 (v2 + (1 : Int))), .i v3, .i v4, .s v5, .b v6, .l v7, .l (List.take (Int.toNat (w64 ((↑(Int.toNat (w64 (ln v8 - (1 : Int))) - 0) : Int) - (1 : Int))) - 0) v8 ++ [[pI (cI (el v0 v2) 2), pI (cI (el v0 v2) 3), pS (cS (el v0 v2) 4)]])])
    .fail)
    .fail))
    .fail))
    (.test (decide ((0 : Int) ≤ w64 ((2 : Int) - uI (out r0 0) 0) ∧ w64 ((2 : Int) - uI (out r0 0) 0) ≤ (2 : Int) ∧ (2 : Int) ≤ (2 : Int)))
    (.test (decide (Int.toNat (w64 ((2 : Int) - uI (out r0 0) 0)) + (2 - Int.toNat (w64 ((2 : Int) - uI (out r0 0) 0))) ≤ 2))
    (let r2 : Rs := (Rt.res (m_expr_leaves [U.i (cI (el v0 v2) 0), U.l (List.take (2 - Int.toNat (w64 ((2 : Int) - uI (out r0 0) 0))) (List.drop (Int.toNat (w64 ((2 : Int) - uI (out r0 0) 0))) [[pI (cI (List.getD v8 (0 + Int.toNat (w64 ((↑(Int.toNat (w64 (ln v8 - (1 : Int))) - 0) : Int) - (1 : Int)))) []) 0)], [pI (cI (el v8 (w64 (ln v8 - (1 : Int)))) 0)]]))]))
    (.test (ok r2 0)
    (.test (!uB (out r2 0) 1)
    (.stop 0 [.i ((30 : Int)), .i ((0 : Int)), .i ((0 : Int)), .s ({ data := #[] })])
    (let r3 : Rs := (Rt.res (m_expr_do [U.i (cI (el v0 v2) 0), U.i (cI (List.getD v8 (0 + Int.toNat (w64 ((↑(Int.toNat (w64 (ln v8 - (1 : Int))) - 0) : Int) - (1 : Int)))) []) 0), U.i (cI (List.getD v8 (0 + Int.toNat (w64 ((↑(Int.toNat (w64 (ln v8 - (1 : Int))) - 0) : Int) - (1 : Int)))) []) 1), U.s (cS (List.getD v8 (0 + Int.toNat (w64 ((↑(Int.toNat (w64 (ln v8 - (1 : Int))) - 0) : Int) - (1 : Int)))) []) 2), U.i (cI (el v8 (w64 (ln v8 - (1 : Int)))) 0), U.i (cI (el v8 (w64 (ln v8 - (1 : Int)))) 1), U.s (cS (el v8 (w64 (ln v8 - (1 : Int)))) 2)]))
    (.test (ok r3 0)
    (.test (!uB (out r3 0) 3)
    (.stop 0 [.i ((31 : Int)), .i ((0 : Int)), .i ((0 : Int)), .s ({ data := #[] })])
    (.test (decide (0 + (Int.toNat (w64 ((↑(Int.toNat (w64 (ln v8 - (1 : Int))) - 0) : Int) - (1 : Int))) - 0) ≤ List.length v8))
    (.test (decide ((List.length (List.take (Int.toNat (w64 ((↑(Int.toNat (w64 (ln v8 - (1 : Int))) - 0) : Int) - (1 : Int))) - 0) v8) + 1) * 32 ≤ 140737488355328))
    (.next [.l v0, .i v1, .i (w64 (v2 + (1 : Int))), .i v3, .i v4, .s v5, .b v6, .l v7, .l (List.take (Int.toNat (w64 ((↑(Int.toNat (w64 (ln v8 - (1 : Int))) - 0) : Int) - (1 : Int))) - 0) v8 ++ [[pI (uI (out r3 0) 0), pI (uI (out r3 0) 1), pS (uS (out r3 0) 2)]])])
    .fail)
    .fail))
    .fail)))
    .fail))
    .fail)
    .fail)))))
    .fail)
    .fail)
    .fail)
    .fail)
    .fail))
    .fail)
    (.test (!v6)
    (.stop 0 [.i ((30 : Int)), .i ((0 : Int)), .i ((0 : Int)), .s ({ data := #[] })])
    (.test (decide (uI (out r0 0) 0 < (0 : Int)))
    (.stop 0 [.i ((30 : Int)), .i ((0 : Int)), .i ((0 : Int)), .s ({ data := #[] })])
    (.test (cI (el v0 v2) 0 == (0 : Int))
    (.test (decide (cI (el v0 v2) 1 < (0 : Int)))
    (.stop 0 [.i ((30 : Int)), .i ((0 : Int)), .i ((0 : Int)), .s ({ data := #[] })])
    (.test (decide (cI (el v0 v2) 1 ≥ ln v7))
    (.stop 0 [.i ((30 : Int)), .i ((0 : Int)), .i ((0 : Int)), .s ({ data := #[] })])
    (.test (inR (cI (el v0 v2) 1) (ln v7))
    (.test (decide (0 + (Int.toNat (w64 (ln v8 - (1 : Int))) - 0) ≤ List.length v8))
    (.test (decide ((List.length (List.take (Int.toNat (w64 (ln v8 - (1 : Int))) - 0) v8) + 1) * 32 ≤ 140737488355328))
    (.next [.l v0, .i v1, .i (w64 (v2 + (1 : Int))), .i v3, .i v4, .s v5, .b v6, .l v7, .l (List.take (Int.toNat (w64 (ln v8 - (1 : Int))) - 0) v8 ++ [[pI (cI (el v7 (cI (el v0 v2) 1)) 0), pI (cI (el v7 (cI (el v0 v2) 1)) 1), pS (cS (el v7 (cI (el v0 v2) 1)) 2)]])])
    .fail)
    .fail)
    .fail)))
    (.test (cI (el v0 v2) 0 == (1 : Int))
    (let r4 : Rs := (Rt.res (m_value_May [U.i (cI (el v0 v2) 2), U.i (cI (el v0 v2) 3), U.s (cS (el v0 v2) 4)]))
    (.test (ok r4 0)
    (.test (!uB (out r4 0) 0)
    (.stop 0 [.i ((30 : Int)), .i ((0 : Int)), .i ((0 : Int)), .s ({ data := #[] })])
    (.test (decide (0 + (Int.toNat (w64 (ln v8 - (1 : Int))) - 0) ≤ List.length v8))
    (.test (decide ((List.length (List.take (Int.toNat (w64 (ln v8 - (1 : Int))) - 0) v8) + 1) * 32 ≤ 140737488355328))
    (.next [.l v0, .i v1, .i (w64 (v2 + (1 : Int))), .i v3, .i v4, .s v5, .b v6, .l v7, .l (List.take (Int.toNat (w64 (ln v8 - (1 : Int))) - 0) v8 ++ [[pI (cI (el v0 v2) 2), pI (cI (el v0 v2) 3), pS (cS (el v0 v2) 4)]])])
    .fail)
    .fail))
    .fail))
    (.test (decide ((0 : Int) ≤ w64 ((2 : Int) - uI (out r0 0) 0) ∧ w64 ((2 : Int) - uI (out r0 0) 0) ≤ (2 : Int) ∧ (2 : Int) ≤ (2 : Int)))
    (.test (decide (Int.toNat (w64 ((2 : Int) - uI (out r0 0) 0)) + (2 - Int.toNat (w64 ((2 : Int) - uI (out r0 0) 0))) ≤ 2))
    (let r5 : Rs := (Rt.res (m_expr_leaves [U.i (cI (el v0 v2) 0), U.l (List.take (2 - Int.toNat (w64 ((2 : Int) - uI (out r0 0) 0))) (List.drop (Int.toNat (w64 ((2 : Int) - uI (out r0 0) 0))) [[pI (0 : Int)], [pI (cI (el v8 (w64 (ln v8 - (1 : Int)))) 0)]]))]))
    (.test (ok r5 0)
    (.test (!uB (out r5 0) 1)
    (.stop 0 [.i ((30 : Int)), .i ((0 : Int)), .i ((0 : Int)), .s ({ data := #[] })])
    (let r6 : Rs := (Rt.res (m_expr_do [U.i (cI (el v0 v2) 0), U.i (0 : Int), U.i (0 : Int), U.s { data := #[] }, U.i (cI (el v8 (w64 (ln v8 - (1 : Int)))) 0), U.i (cI (el v8 (w64 (ln v8 - (1 : Int)))) 1), U.s (cS (el v8 (w64 (ln v8 - (1 : Int)))) 2)]))
    (.test (ok r6 0)
    (.test (!uB (out r6 0) 3)
    (.stop 0 [.i ((31 : Int)), .i ((0 : Int)), .i ((0 : Int)), .s ({ data := #[] })])
    (.test (decide (0 + (Int.toNat (w64 (ln v8 - (1 : Int))) - 0) ≤ List.length v8))
    (.test (decide ((List.length (List.take (Int.toNat (w64 (ln v8 - (1 : Int))) - 0) v8) + 1) * 32 ≤ 140737488355328))
    (.next [.l v0, .i v1, .i (w64 (v2 + (1 : Int))), .i v3, .i v4, .s v5, .b v6, .l v7, .l (List.take (Int.toNat (w64 (ln v8 - (1 : Int))) - 0) v8 ++ [[pI (uI (out r6 0) 0), pI (uI (out r6 0) 1), pS (uS (out r6 0) 2)]])])
    .fail)
    .fail))
    .fail)))
    .fail))
    .fail)
    .fail))))))
    .fail)
    .fail)
    .fail))
    (.test (decide (uI (out r0 0) 0 > (1 : Int)))
    (.test (ln v8 == (0 : Int))
    (.stop 0 [.i ((30 : Int)), .i ((0 : Int)), .i ((0 : Int)), .s ({ data := #[] })])
    (.test (inR (w64 (ln v8 - (1 : Int))) (ln v8))
    (.test (decide (Int.toNat (w64 (ln v8 - (1 : Int))) < List.length v8))
    (.test (decide ((0 : Int) ≤ (0 : Int) ∧ (0 : Int) ≤ w64 (ln v8 - (1 : Int)) ∧ w64 (ln v8 - (1 : Int)) ≤ ln v8))
    (.test (!v6)
    (.stop 0 [.i ((30 : Int)), .i ((0 : Int)), .i ((0 : Int)), .s ({ data := #[] })])
    (.test (decide (uI (out r0 0) 0 < (0 : Int)))
    (.stop 0 [.i ((30 : Int)), .i ((0 : Int)), .i ((0 : Int)), .s ({ data := #[] })])
    (.test (cI (el v0 v2) 0 == (0 : Int))
    (.test (decide (cI (el v0 v2) 1 < (0 : Int)))
    (.stop 0 [.i ((30 : Int)), .i ((0 : Int)), .i ((0 : Int)), .s ({ data := #[] })])
    (.test (decide (cI (el v0 v2) 1 ≥ ln v7))
    (.stop 0 [.i ((30 : Int)), .i ((0 : Int)), .i ((0 : Int)), .s ({ data := #[] })])
    (.test (inR (cI (el v0 v2) 1) (ln v7))
    (.test (decide (0 + (Int.toNat (w64 (ln v8 - (1 : Int))) - 0) ≤ List.length v8))
    (.test (decide ((List.length (List.take (Int.toNat (w64 (ln v8 - (1 : Int))) - 0) v8) + 1) * 32 ≤ 140737488355328))
    (.next [.l v0, .i v1, .i (w64 (v2 + (1 : Int))), .i v3, .i v4, .s v5, .b v6, .l v7, .l (List.take (Int.toNat (w64 (ln v8 - (1 : Int))) - 0) v8 ++ [[pI (cI (el v7 (cI (el v0 v2) 1)) 0), pI (cI (el v7 (cI (el v0 v2) 1)) 1), pS (cS (el v7 (cI (el v0 v2) 1)) 2)]])])
    .fail)
    .fail)
    .fail)))
    (.test (cI (el v0 v2) 0 == (1 : Int))
    (let r7 : Rs := (Rt.res (m_value_May [U.i (cI (el v0 v2) 2), U.i (cI (el v0 v2) 3), U.s (cS (el v0 v2) 4)]))
    (.test (ok r7 0)
    (.test (!uB (out r7 0) 0)
    (.stop 0 [.i ((30 : Int)), .i ((0 : Int)), .i ((0 : Int)), .s ({ data := #[] })])
    (.test (decide (0 + (Int.toNat (w64 (ln v8 - (1 : Int))) - 0) ≤ List.length v8))
    (.test (decide ((List.length (List.take (Int.toNat (w64 (ln v8 - (1 : Int))) - 0) v8) + 1) * 32 ≤ 140737488355328))
    (.next [.l v0, .i v1, .i (w64 (v2 + (1 : Int))), .i v3, .i v4, .s v5, .b v6, .l v7, .l (List.take (Int.toNat (w64 (ln v8 - (1 : Int))) - 0) v8 ++ [[pI (cI (el v0 v2) 2), pI (cI (el v0 v2) 3), pS (cS (el v0 v2) 4)]])])
    .fail)
    .fail))
    .fail))
    (.test (decide ((0 : Int) ≤ w64 ((2 : Int) - uI (out r0 0) 0) ∧ w64 ((2 : Int) - uI (out r0 0) 0) ≤ (2 : Int) ∧ (2 : Int) ≤ (2 : Int)))
    (.test (decide (Int.toNat (w64 ((2 : Int) - uI (out r0 0) 0)) + (2 - Int.toNat (w64 ((2 : Int) - uI (out r0 0) 0))) ≤ 2))
    (let r8 : Rs := (Rt.res (m_expr_leaves [U.i (cI (el v0 v2) 0), U.l (List.take (2 - Int.toNat (w64 ((2 : Int) - uI (out r0 0) 0))) (List.drop (Int.toNat (w64 ((2 : Int) - uI (out r0 0) 0))) [[pI (cI (el v8 (w64 (ln v8 - (1 : Int)))) 0)], [pI (0 : Int)]]))]))
    (.test (ok r8 0)
    (.test (!uB (out r8 0) 1)
    (.stop 0 [.i ((30 : Int)), .i ((0 : Int)), .i ((0 : Int)), .s ({ data := #[] })])
    (let r9 : Rs := (Rt.res (m_expr_do [U.i (cI (el v0 v2) 0), U.i (cI (el v8 (w64 (ln v8 - (1 : Int)))) 0), U.i (cI (el v8 (w64 (ln v8 - (1 : Int)))) 1), U.s (cS (el v8 (w64 (ln v8 - (1 : Int)))) 2), U.i (0 : Int), U.i (0 : Int), U.s { data := #[] }]))
    (.test (ok r9 0)
    (.test (!uB (out r9 0) 3)
    (.stop 0 [.i ((31 : Int)), .i ((0 : Int)), .i ((0 : Int)), .s ({ data := #[] })])
    (.test (decide (0 + (Int.toNat (w64 (ln v8 - (1 : Int))) - 0) ≤ List.length v8))
    (.test (decide ((List.length (List.take (Int.toNat (w64 (ln v8 - (1 : Int))) - 0) v8) + 1) * 32 ≤ 140737488355328))
    (.next [.l v0, .i v1, .i (w64 (v2 + (1 : Int))), .i v3, .i v4, .s v5, .b v6, .l v7, .l (List.take (Int.toNat (w64 (ln v8 - (1 : Int))) - 0) v8 ++ [[pI (uI (out r9 0) 0), pI (uI (out r9 0) 1), pS (uS (out r9 0) 2)]])])
    .fail)
    .fail))
    .fail)))
    .fail))
    .fail)
    .fail)))))
    .fail)
    .fail)
    .fail))
    (.test (!v6)
    (.stop 0 [.i ((30 : Int)), .i ((0 : Int)), .i ((0 : Int)), .s ({ data := #[] })])
    (.test (decide (uI (out r0 0) 0 < (0 : Int)))
    (.stop 0 [.i ((30 : Int)), .i ((0 : Int)), .i ((0 : Int)), .s ({ data := #[] })])
    (.test (cI (el v0 v2) 0 == (0 : Int))
    (.test (decide (cI (el v0 v2) 1 < (0 : Int)))
    (.stop 0 [.i ((30 : Int)), .i ((0 : Int)), .i ((0 : Int)), .s ({ data := #[] })])
    (.test (decide (cI (el v0 v2) 1 ≥ ln v7))
    (.stop 0 [.i ((30 : Int)), .i ((0 : Int)), .i ((0 : Int)), .s ({ data := #[] })])
    (.test (inR (cI (el v0 v2) 1) (ln v7))
    (.test (decide ((List.length v8 + 1) * 32 ≤ 140737488355328))
    (.next [.l v0, .i v1, .i (w64 (v2 + (1 : Int))), .i v3, .i v4, .s v5, .b v6, .l v7, .l (v8 ++ [[pI (cI (el v7 (cI (el v0 v2) 1)) 0), pI (cI (el v7 (cI (el v0 v2) 1)) 1), pS (cS (el v7 (cI (el v0 v2) 1)) 2)]])])
    .fail)
    .fail)))
    (.test (cI (el v0 v2) 0 == (1 : Int))
    (let r10 : Rs := (Rt.res (m_value_May [U.i (cI (el v0 v2) 2), U.i (cI (el v0 v2) 3), U.s (cS (el v0 v2) 4)]))
    (.test (ok r10 0)
    (.test (!uB (out r10 0) 0)
    (.stop 0 [.i ((30 : Int)), .i ((0 : Int)), .i ((0 : Int)), .s ({ data := #[] })])
    (.test (decide ((List.length v8 + 1) * 32 ≤ 140737488355328))
    (.next [.l v0, .i v1, .i (w64 (v2 + (1 : Int))), .i v3, .i v4, .s v5, .b v6, .l v7, .l (v8 ++ [[pI (cI (el v0 v2) 2), pI (cI (el v0 v2) 3), pS (cS (el v0 v2) 4)]])])
    .fail))
    .fail))
    (.test (decide ((0 : Int) ≤ w64 ((2 : Int) - uI (out r0 0) 0) ∧ w64 ((2 : Int) - uI (out r0 0) 0) ≤ (2 : Int) ∧ (2 : Int) ≤ (2 : Int)))
    (.test (decide (Int.toNat (w64 ((2 : Int) - uI (out r0 0) 0)) + (2 - Int.toNat (w64 ((2 : Int) - uI (out r0 0) 0))) ≤ 2))
    (let r11 : Rs := (Rt.res (m_expr_leaves [U.i (cI (el v0 v2) 0), U.l (List.take (2 - Int.toNat (w64 ((2 : Int) - uI (out r0 0) 0))) (List.drop (Int.toNat (w64 ((2 : Int) - uI (out r0 0) 0))) [[pI (0 : Int)], [pI (0 : Int)]]))]))
    (.test (ok r11 0)
    (.test (!uB (out r11 0) 1)
    (.stop 0 [.i ((30 : Int)), .i ((0 : Int)), .i ((0 : Int)), .s ({ data := #[] })])
    (let r12 : Rs := (Rt.res (m_expr_do [U.i (cI (el v0 v2) 0), U.i (0 : Int), U.i (0 : Int), U.s { data := #[] }, U.i (0 : Int), U.i (0 : Int), U.s { data := #[] }]))
    (.test (ok r12 0)
    (.test (!uB (out r12 0) 3)
    (.stop 0 [.i ((31 : Int)), .i ((0 : Int)), .i ((0 : Int)), .s ({ data := #[] })])
    (.test (decide ((List.length v8 + 1) * 32 ≤ 140737488355328))
    (.next [.l v0, .i v1, .i (w64 (v2 + (1 : Int))), .i v3, .i v4, .s v5, .b v6, .l v7, .l (v8 ++ [[pI (uI (out r12 0) 0), pI (uI (out r12 0) 1), pS (uS (out r12 0) 2)]])])
    .fail))
    .fail)))
    .fail))
    .fail)
    .fail)))))))
    .fail))
    .fail)
    (.stop 1 [.i v3, .i v4, .s v5, .b v6, .l v7, .l v8]))
  | _ => .fail
def sp_expr_Eval_61_6 : LSp := ⟨47, ⟨[(4, .one (.ptr 0 0)), (6, .one (.ptr 1 0)), (23, .one (.l 63)), (24, .one (.i .i64)), (25, .one (.i .i64))], [.box 48 [.one (.i .i64), .one (.i .i64), .one (.s)], .box 114 [.one (.all 2), .one (.b), .one (.l 48)], .arr 48 true]⟩, [(.ret, ⟨[(4, .one (.ptr 0 0)), (5, .one (.i .i64))], [.box 48 [.one (.i .i64), .one (.i .i64), .one (.s)]]⟩), (.exit 0, ⟨[(4, .one (.ptr 0 0)), (6, .one (.ptr 1 0))], [.box 48 [.one (.i .i64), .one (.i .i64), .one (.s)], .box 114 [.one (.all 2), .one (.b), .one (.l 48)], .arr 48 true]⟩)]⟩
set_option maxRecDepth 100000 in
theorem rq_expr_Eval_61_6 (v0 : List (List PV)) (v1 : Int) (v2 : Int) (v3 : Int) (v4 : Int) (v5 : ByteArray) (v6 : Bool) (v7 : List (List PV)) (v8 : List (List PV)) : runK br Try.prog (callK br Try.prog X128 M_expr_Eval L_expr_Eval (lsT []) 40) M_expr_Eval (lsT [] 61 0) 40 0 (L_expr_Eval 61) (bodyOf Try.prog 61 6) (sp_expr_Eval_61_6.s.ts sp_expr_Eval_61_6.n [.l v0, .i v1, .i v2, .i v3, .i v4, .s v5, .b v6, .l v7, .l v8]) (sp_expr_Eval_61_6.s.h [.l v0, .i v1, .i v2, .i v3, .i v4, .s v5, .b v6, .l v7, .l v8]) (idc Try.prog 0 (L_expr_Eval 61) 6) =
    (rd_expr_Eval_61_6 [.l v0, .i v1, .i v2, .i v3, .i v4, .s v5, .b v6, .l v7, .l v8]).go br (fun us' => some (.normal, sp_expr_Eval_61_6.s.ts sp_expr_Eval_61_6.n us', sp_expr_Eval_61_6.s.h us')) sp_expr_Eval_61_6.fin := by
  rw [← callF_eq, ← runF_eq]; kernel_rfl
theorem lo_expr_Eval_61_6 {R : Type} : LoopTells Try.prog X128 M_expr_Eval L_expr_Eval 0 (L_expr_Eval 61) (bodyOf Try.prog 61 6) (gL (R := R) sp_expr_Eval_61_6 rd_expr_Eval_61_6 br) :=
  loopTold (callK_ev (loopsOK_list rids noneIn) 40) (lsokIn (loopsOK_list rids noneIn) 61 0 6) (by kernel_rfl) sp_expr_Eval_61_6 rd_expr_Eval_61_6 rfl (by kernel_rfl) (by
    intro us v h; unfold rd_expr_Eval_61_6 at h; split at h
    · rename_i v0 v1 v2 v3 v4 v5 v6 v7 v8; exact rq_expr_Eval_61_6 v0 v1 v2 v3 v4 v5 v6 v7 v8
    · cases h)
noncomputable abbrev ll_expr_Eval_61_6 {R : Type} : List (Nat × Nat × Nat × Smy R) := (61, 0, 6, gL sp_expr_Eval_61_6 rd_expr_Eval_61_6 br) :: []
theorem lk_expr_Eval_61_6 {R : Type} : ∀ e ∈ ll_expr_Eval_61_6 (R := R), LoopTells Try.prog X128 M_expr_Eval L_expr_Eval e.2.1 (L_expr_Eval e.1) (bodyOf Try.prog e.1 e.2.2.1) e.2.2.2 := List.forall_mem_cons.2 ⟨lo_expr_Eval_61_6, noneIn⟩
def S_expr_Eval : FSp := ⟨[.one (.l 63), .one (.l 48)], [], [], [([.agg [.i .i64, .i .i64, .s], .one (.i .i64)], [])]⟩
noncomputable def m_expr_Eval : List U → Rt
  | [.l v0, .l v1] =>
    (.test (decide (ln v0 > (100 : Int)))
    (.stop 0 [.i ((0 : Int)), .i ((0 : Int)), .s ({ data := #[] }), .i ((1 : Int))])
    (let r0 : Rs := (lres rd_expr_Eval_61_6 [U.l v0, U.i (ln v0), U.i (0 : Int), U.i (0 : Int), U.i (0 : Int), U.s { data := #[] }, U.b true, U.l v1, U.l []])
    (.test (ok r0 0)
    (.stop 0 [.i (uI (out r0 0) 1), .i (uI (out r0 0) 2), .s (uS (out r0 0) 3), .i (uI (out r0 0) 0)])
    (.test (ok r0 1)
    (.test (!uB (out r0 1) 3)
    (.stop 0 [.i ((0 : Int)), .i ((0 : Int)), .s ({ data := #[] }), .i ((30 : Int))])
    (.test (ln (uL (out r0 1) 5) != (1 : Int))
    (.stop 0 [.i ((0 : Int)), .i ((0 : Int)), .s ({ data := #[] }), .i ((30 : Int))])
    (.test (inR (0 : Int) (ln (uL (out r0 1) 5)))
    (.test (decide (0 < List.length (uL (out r0 1) 5)))
    (.stop 0 [.i (cI (List.getD (uL (out r0 1) 5) 0 []) 0), .i (cI (List.getD (uL (out r0 1) 5) 0 []) 1), .s (cS (List.getD (uL (out r0 1) 5) 0 []) 2), .i ((0 : Int))])
    .fail)
    .fail)))
    .fail))))
  | _ => .fail
set_option maxRecDepth 100000 in
theorem q_expr_Eval (v0 : List (List PV)) (v1 : List (List PV)) : callK br Try.prog X128 M_expr_Eval L_expr_Eval (lsT ll_expr_Eval_61_6) 60 61 (encs [.l v0, .l v1] 0 S_expr_Eval.ap) (encH [.l v0, .l v1] (ws S_expr_Eval.ap) S_expr_Eval.ah) (fun y => fixR Try.prog S_expr_Eval.plan S_expr_Eval.ah.length y) =
    (m_expr_Eval [.l v0, .l v1]).go br (fun _ => none) S_expr_Eval.fin := by
  rw [← callF_eq]; kernel_rfl
theorem e_expr_Eval : EOK Try.prog 61 (gF S_expr_Eval m_expr_Eval) :=
  eokTold mixed named x128 (loopsOK_list rids lk_expr_Eval_61_6) 60 S_expr_Eval m_expr_Eval (by
    intro us v h; unfold m_expr_Eval at h; split at h
    · rename_i v0 v1; exact q_expr_Eval v0 v1
    · cases h) false
noncomputable abbrev X129 : Ext := extT [(61, (gF S_expr_Eval m_expr_Eval))] X128
theorem x129 : XOK Try.prog X129 := xok1 x128 e_expr_Eval

def L_expr_True : FuncId → Nat → Option (List Nat) := liveT []
def M_expr_True : FuncId → Bool := fun _ => false
def S_expr_True : FSp := ⟨[.one (.l 63), .one (.l 48)], [], [], [([.one (.b), .one (.i .i64)], [])]⟩
noncomputable def m_expr_True : List U → Rt
  | [.l v0, .l v1] =>
    (.test (ln v0 == (0 : Int))
    (.stop 0 [.b true, .i ((0 : Int))])
    (let r0 : Rs := (Rt.res (m_expr_Eval [U.l v0, U.l v1]))
    (.test (ok r0 0)
    (.test (uI (out r0 0) 3 == (0 : Int))
    (.stop 0 [.b (uI (out r0 0) 0 == (1 : Int) && (uI (out r0 0) 1 == (1 : Int) && (ByteArray.toList (uS (out r0 0) 2) == [] && true))), .i (uI (out r0 0) 3)])
    (.stop 0 [.b false, .i (uI (out r0 0) 3)]))
    .fail)))
  | _ => .fail
set_option maxRecDepth 100000 in
theorem q_expr_True (v0 : List (List PV)) (v1 : List (List PV)) : callK br Try.prog X129 M_expr_True L_expr_True (lsT []) 60 40 (encs [.l v0, .l v1] 0 S_expr_True.ap) (encH [.l v0, .l v1] (ws S_expr_True.ap) S_expr_True.ah) (fun y => fixR Try.prog S_expr_True.plan S_expr_True.ah.length y) =
    (m_expr_True [.l v0, .l v1]).go br (fun _ => none) S_expr_True.fin := by
  rw [← callF_eq]; kernel_rfl
theorem e_expr_True : EOK Try.prog 40 (gF S_expr_True m_expr_True) :=
  eokTold mixed named x129 (loopsOK_list rids noneIn) 60 S_expr_True m_expr_True (by
    intro us v h; unfold m_expr_True at h; split at h
    · rename_i v0 v1; exact q_expr_True v0 v1
    · cases h) false
noncomputable abbrev X130 : Ext := extT [(40, (gF S_expr_True m_expr_True))] X129
theorem x130 : XOK Try.prog X130 := xok1 x129 e_expr_True

def L_query_Where : FuncId → Nat → Option (List Nat) := liveT [(16, 5, [2, 93000006, 14, 15, 16]), (16, 1000005, [6]), (16, 2000005, [4, 5])]
def M_query_Where : FuncId → Bool := fun _ => false
noncomputable def rd_query_Where_16_5 : List U → Rt
  | [.l v0, .i v1, .i v2, .s v3, .s v4, .s v5, .i v6, .i v7, .l v8, .l v9, .b v10, .l v11, .l v12] =>
    (.test (decide (v2 < v1))
    (.test (inR v2 (ln v0))
    (let r0 : Rs := (Rt.res (m_expr_True [U.l v8, U.l (cL (el v0 v2) 0)]))
    (.test (ok r0 0)
    (.test (uI (out r0 0) 1 != (0 : Int))
    (.stop 0 [.i (uI (out r0 0) 1)])
    (.test (uB (out r0 0) 0)
    (.test (decide ((0 + List.length (cL (el v0 v2) 0)) * 32 ≤ 140737488355328))
    (.test (decide ((List.length v12 + 1) * 32 ≤ 140737488355328))
    (.next [.l v0, .i v1, .i (w64 (v2 + (1 : Int))), .s v3, .s v4, .s v5, .i v6, .i v7, .l v8, .l v9, .b v10, .l v11, .l (v12 ++ [[PV.lst 48 (cL (el v0 v2) 0), pI (cI (el v0 v2) 1)]])])
    .fail)
    .fail)
    (.next [.l v0, .i v1, .i (w64 (v2 + (1 : Int))), .s v3, .s v4, .s v5, .i v6, .i v7, .l v8, .l v9, .b v10, .l v11, .l v12])))
    .fail))
    .fail)
    (.stop 1 [.l v12]))
  | _ => .fail
def sp_query_Where_16_5 : LSp := ⟨43, ⟨[(2, .one (.ptr 0 0)), (6, .one (.all 1)), (14, .one (.l 46)), (15, .one (.i .i64)), (16, .one (.i .i64))], [.box 28 [.one (.s), .one (.s), .one (.s), .one (.i .i64), .one (.i .i64), .one (.l 63), .one (.l 3), .one (.b), .one (.l 165)], .arr 46 true]⟩, [(.ret, ⟨[(4, .one (.nils)), (5, .one (.i .i64))], []⟩), (.exit 0, ⟨[(6, .one (.all 0))], [.arr 46 true]⟩)]⟩
set_option maxRecDepth 100000 in
theorem rq_query_Where_16_5 (v0 : List (List PV)) (v1 : Int) (v2 : Int) (v3 : ByteArray) (v4 : ByteArray) (v5 : ByteArray) (v6 : Int) (v7 : Int) (v8 : List (List PV)) (v9 : List (List PV)) (v10 : Bool) (v11 : List (List PV)) (v12 : List (List PV)) : runK br Try.prog (callK br Try.prog X130 M_query_Where L_query_Where (lsT []) 40) M_query_Where (lsT [] 16 0) 40 0 (L_query_Where 16) (bodyOf Try.prog 16 5) (sp_query_Where_16_5.s.ts sp_query_Where_16_5.n [.l v0, .i v1, .i v2, .s v3, .s v4, .s v5, .i v6, .i v7, .l v8, .l v9, .b v10, .l v11, .l v12]) (sp_query_Where_16_5.s.h [.l v0, .i v1, .i v2, .s v3, .s v4, .s v5, .i v6, .i v7, .l v8, .l v9, .b v10, .l v11, .l v12]) (idc Try.prog 0 (L_query_Where 16) 5) =
    (rd_query_Where_16_5 [.l v0, .i v1, .i v2, .s v3, .s v4, .s v5, .i v6, .i v7, .l v8, .l v9, .b v10, .l v11, .l v12]).go br (fun us' => some (.normal, sp_query_Where_16_5.s.ts sp_query_Where_16_5.n us', sp_query_Where_16_5.s.h us')) sp_query_Where_16_5.fin := by
  rw [← callF_eq, ← runF_eq]; kernel_rfl
theorem lo_query_Where_16_5 {R : Type} : LoopTells Try.prog X130 M_query_Where L_query_Where 0 (L_query_Where 16) (bodyOf Try.prog 16 5) (gL (R := R) sp_query_Where_16_5 rd_query_Where_16_5 br) :=
  loopTold (callK_ev (loopsOK_list rids noneIn) 40) (lsokIn (loopsOK_list rids noneIn) 16 0 5) (by kernel_rfl) sp_query_Where_16_5 rd_query_Where_16_5 rfl (by kernel_rfl) (by
    intro us v h; unfold rd_query_Where_16_5 at h; split at h
    · rename_i v0 v1 v2 v3 v4 v5 v6 v7 v8 v9 v10 v11 v12; exact rq_query_Where_16_5 v0 v1 v2 v3 v4 v5 v6 v7 v8 v9 v10 v11 v12
    · cases h)
noncomputable abbrev ll_query_Where_16_5 {R : Type} : List (Nat × Nat × Nat × Smy R) := (16, 0, 5, gL sp_query_Where_16_5 rd_query_Where_16_5 br) :: []
theorem lk_query_Where_16_5 {R : Type} : ∀ e ∈ ll_query_Where_16_5 (R := R), LoopTells Try.prog X130 M_query_Where L_query_Where e.2.1 (L_query_Where e.1) (bodyOf Try.prog e.1 e.2.2.1) e.2.2.2 := List.forall_mem_cons.2 ⟨lo_query_Where_16_5, noneIn⟩
def S_query_Where : FSp := ⟨[.agg [.s, .s, .s, .i .i64, .i .i64, .l 63, .l 3, .b, .l 165], .one (.l 46)], [], [93000000], [([.one (.all 0), .one (.i .i64)], [.arr 46 true])]⟩
noncomputable def m_query_Where : List U → Rt
  | [.s v0, .s v1, .s v2, .i v3, .i v4, .l v5, .l v6, .b v7, .l v8, .l v9] =>
    (let r0 : Rs := (Rt.res (m_bag_May [U.l v9]))
    (.test (ok r0 0)
    (.test (!uB (out r0 0) 0)
    (.stop 0 [.i ((0 : Int)), .l []])
    (let r1 : Rs := (lres rd_query_Where_16_5 [U.l v9, U.i (ln v9), U.i (0 : Int), U.s v0, U.s v1, U.s v2, U.i v3, U.i v4, U.l v5, U.l v6, U.b v7, U.l v8, U.l []])
    (.test (ok r1 0)
    (.stop 0 [.i (uI (out r1 0) 0), .l []])
    (.test (ok r1 1)
    (.stop 0 [.i ((0 : Int)), .l (uL (out r1 1) 0)])
    .fail))))
    .fail))
  | _ => .fail
set_option maxRecDepth 100000 in
theorem q_query_Where (v0 : ByteArray) (v1 : ByteArray) (v2 : ByteArray) (v3 : Int) (v4 : Int) (v5 : List (List PV)) (v6 : List (List PV)) (v7 : Bool) (v8 : List (List PV)) (v9 : List (List PV)) : callK br Try.prog X130 M_query_Where L_query_Where (lsT ll_query_Where_16_5) 60 16 (encs [.s v0, .s v1, .s v2, .i v3, .i v4, .l v5, .l v6, .b v7, .l v8, .l v9] 0 S_query_Where.ap) (encH [.s v0, .s v1, .s v2, .i v3, .i v4, .l v5, .l v6, .b v7, .l v8, .l v9] (ws S_query_Where.ap) S_query_Where.ah) (fun y => fixR Try.prog S_query_Where.plan S_query_Where.ah.length y) =
    (m_query_Where [.s v0, .s v1, .s v2, .i v3, .i v4, .l v5, .l v6, .b v7, .l v8, .l v9]).go br (fun _ => none) S_query_Where.fin := by
  rw [← callF_eq]; kernel_rfl
theorem e_query_Where : EOK Try.prog 16 (gF S_query_Where m_query_Where) :=
  eokTold mixed named x130 (loopsOK_list rids lk_query_Where_16_5) 60 S_query_Where m_query_Where (by
    intro us v h; unfold m_query_Where at h; split at h
    · rename_i v0 v1 v2 v3 v4 v5 v6 v7 v8 v9; exact q_query_Where v0 v1 v2 v3 v4 v5 v6 v7 v8 v9
    · cases h) false
noncomputable abbrev X131 : Ext := extT [(16, (gF S_query_Where m_query_Where))] X130
theorem x131 : XOK Try.prog X131 := xok1 x130 e_query_Where

def L_row_Pick : FuncId → Nat → Option (List Nat) := liveT [(42, 3, [0, 97000006, 9, 10, 11]), (42, 1000003, [6]), (42, 2000003, [4, 5])]
def M_row_Pick : FuncId → Bool := fun _ => false
noncomputable def rd_row_Pick_42_3 : List U → Rt
  | [.l v0, .l v1, .i v2, .i v3, .l v4] =>
    (.test (decide (v3 < v2))
    (.test (inR v3 (ln v1))
    (.test (decide (cI (el v1 v3) 0 < (0 : Int)))
    (.stop 0 [.b false])
    (.test (decide (cI (el v1 v3) 0 ≥ ln v0))
    (.stop 0 [.b false])
    (.test (inR (cI (el v1 v3) 0) (ln v0))
    (.test (decide ((List.length v4 + 1) * 32 ≤ 140737488355328))
    (.next [.l v0, .l v1, .i v2, .i (w64 (v3 + (1 : Int))), .l (v4 ++ [[pI (cI (el v0 (cI (el v1 v3) 0)) 0), pI (cI (el v0 (cI (el v1 v3) 0)) 1), pS (cS (el v0 (cI (el v1 v3) 0)) 2)]])])
    .fail)
    .fail)))
    .fail)
    (.stop 1 [.l v4]))
  | _ => .fail
def sp_row_Pick_42_3 : LSp := ⟨32, ⟨[(0, .one (.l 48)), (6, .one (.all 0)), (9, .one (.l 3)), (10, .one (.i .i64)), (11, .one (.i .i64))], [.arr 48 true]⟩, [(.ret, ⟨[(4, .one (.nils)), (5, .one (.b))], []⟩), (.exit 0, ⟨[(6, .one (.all 0))], [.arr 48 true]⟩)]⟩
set_option maxRecDepth 100000 in
theorem rq_row_Pick_42_3 (v0 : List (List PV)) (v1 : List (List PV)) (v2 : Int) (v3 : Int) (v4 : List (List PV)) : runK br Try.prog (callK br Try.prog X131 M_row_Pick L_row_Pick (lsT []) 40) M_row_Pick (lsT [] 42 0) 40 0 (L_row_Pick 42) (bodyOf Try.prog 42 3) (sp_row_Pick_42_3.s.ts sp_row_Pick_42_3.n [.l v0, .l v1, .i v2, .i v3, .l v4]) (sp_row_Pick_42_3.s.h [.l v0, .l v1, .i v2, .i v3, .l v4]) (idc Try.prog 0 (L_row_Pick 42) 3) =
    (rd_row_Pick_42_3 [.l v0, .l v1, .i v2, .i v3, .l v4]).go br (fun us' => some (.normal, sp_row_Pick_42_3.s.ts sp_row_Pick_42_3.n us', sp_row_Pick_42_3.s.h us')) sp_row_Pick_42_3.fin := by
  rw [← callF_eq, ← runF_eq]; kernel_rfl
theorem lo_row_Pick_42_3 {R : Type} : LoopTells Try.prog X131 M_row_Pick L_row_Pick 0 (L_row_Pick 42) (bodyOf Try.prog 42 3) (gL (R := R) sp_row_Pick_42_3 rd_row_Pick_42_3 br) :=
  loopTold (callK_ev (loopsOK_list rids noneIn) 40) (lsokIn (loopsOK_list rids noneIn) 42 0 3) (by kernel_rfl) sp_row_Pick_42_3 rd_row_Pick_42_3 rfl (by kernel_rfl) (by
    intro us v h; unfold rd_row_Pick_42_3 at h; split at h
    · rename_i v0 v1 v2 v3 v4; exact rq_row_Pick_42_3 v0 v1 v2 v3 v4
    · cases h)
noncomputable abbrev ll_row_Pick_42_3 {R : Type} : List (Nat × Nat × Nat × Smy R) := (42, 0, 3, gL sp_row_Pick_42_3 rd_row_Pick_42_3 br) :: []
theorem lk_row_Pick_42_3 {R : Type} : ∀ e ∈ ll_row_Pick_42_3 (R := R), LoopTells Try.prog X131 M_row_Pick L_row_Pick e.2.1 (L_row_Pick e.1) (bodyOf Try.prog e.1 e.2.2.1) e.2.2.2 := List.forall_mem_cons.2 ⟨lo_row_Pick_42_3, noneIn⟩
def S_row_Pick : FSp := ⟨[.one (.l 48), .one (.l 3)], [], [97000000], [([.one (.all 0), .one (.b)], [.arr 48 true])]⟩
noncomputable def m_row_Pick : List U → Rt
  | [.l v0, .l v1] =>
    (let r0 : Rs := (lres rd_row_Pick_42_3 [U.l v0, U.l v1, U.i (ln v1), U.i (0 : Int), U.l []])
    (.test (ok r0 0)
    (.stop 0 [.b (uB (out r0 0) 0), .l []])
    (.test (ok r0 1)
    (.stop 0 [.b true, .l (uL (out r0 1) 0)])
    .fail)))
  | _ => .fail
set_option maxRecDepth 100000 in
theorem q_row_Pick (v0 : List (List PV)) (v1 : List (List PV)) : callK br Try.prog X131 M_row_Pick L_row_Pick (lsT ll_row_Pick_42_3) 60 42 (encs [.l v0, .l v1] 0 S_row_Pick.ap) (encH [.l v0, .l v1] (ws S_row_Pick.ap) S_row_Pick.ah) (fun y => fixR Try.prog S_row_Pick.plan S_row_Pick.ah.length y) =
    (m_row_Pick [.l v0, .l v1]).go br (fun _ => none) S_row_Pick.fin := by
  rw [← callF_eq]; kernel_rfl
theorem e_row_Pick : EOK Try.prog 42 (gF S_row_Pick m_row_Pick) :=
  eokTold mixed named x131 (loopsOK_list rids lk_row_Pick_42_3) 60 S_row_Pick m_row_Pick (by
    intro us v h; unfold m_row_Pick at h; split at h
    · rename_i v0 v1; exact q_row_Pick v0 v1
    · cases h) false
noncomputable abbrev X132 : Ext := extT [(42, (gF S_row_Pick m_row_Pick))] X131
theorem x132 : XOK Try.prog X132 := xok1 x131 e_row_Pick

def L_query_Pick : FuncId → Nat → Option (List Nat) := liveT [(17, 5, [2, 93000005, 14, 15, 16]), (17, 1000005, [5]), (17, 2000005, [4])]
def M_query_Pick : FuncId → Bool := fun _ => false
noncomputable def rd_query_Pick_17_5 : List U → Rt
  | [.l v0, .i v1, .i v2, .s v3, .s v4, .s v5, .i v6, .i v7, .l v8, .l v9, .b v10, .l v11, .l v12] =>
    (.test (decide (v2 < v1))
    (.test (inR v2 (ln v0))
    (let r0 : Rs := (Rt.res (m_row_Pick [U.l (cL (el v0 v2) 0), U.l v9]))
    (.test (ok r0 0)
    (.test (uB (out r0 0) 0)
    (.test (decide (ln (uL (out r0 0) 1) ≤ (40 : Int)))
    (.test (decide ((List.length v12 + 1) * 32 ≤ 140737488355328))
    (.next [.l v0, .i v1, .i (w64 (v2 + (1 : Int))), .s v3, .s v4, .s v5, .i v6, .i v7, .l v8, .l v9, .b v10, .l v11, .l (v12 ++ [[PV.lst 48 (uL (out r0 0) 1), pI (cI (el v0 v2) 1)]])])
    .fail)
    (.next [.l v0, .i v1, .i (w64 (v2 + (1 : Int))), .s v3, .s v4, .s v5, .i v6, .i v7, .l v8, .l v9, .b v10, .l v11, .l v12]))
    (.next [.l v0, .i v1, .i (w64 (v2 + (1 : Int))), .s v3, .s v4, .s v5, .i v6, .i v7, .l v8, .l v9, .b v10, .l v11, .l v12]))
    .fail))
    .fail)
    (.stop 0 [.l v12]))
  | _ => .fail
def sp_query_Pick_17_5 : LSp := ⟨48, ⟨[(2, .one (.ptr 0 0)), (5, .one (.all 1)), (14, .one (.l 46)), (15, .one (.i .i64)), (16, .one (.i .i64))], [.box 28 [.one (.s), .one (.s), .one (.s), .one (.i .i64), .one (.i .i64), .one (.l 63), .one (.l 3), .one (.b), .one (.l 165)], .arr 46 true]⟩, [(.exit 0, ⟨[(5, .one (.all 0))], [.arr 46 true]⟩)]⟩
set_option maxRecDepth 100000 in
theorem rq_query_Pick_17_5 (v0 : List (List PV)) (v1 : Int) (v2 : Int) (v3 : ByteArray) (v4 : ByteArray) (v5 : ByteArray) (v6 : Int) (v7 : Int) (v8 : List (List PV)) (v9 : List (List PV)) (v10 : Bool) (v11 : List (List PV)) (v12 : List (List PV)) : runK br Try.prog (callK br Try.prog X132 M_query_Pick L_query_Pick (lsT []) 40) M_query_Pick (lsT [] 17 0) 40 0 (L_query_Pick 17) (bodyOf Try.prog 17 5) (sp_query_Pick_17_5.s.ts sp_query_Pick_17_5.n [.l v0, .i v1, .i v2, .s v3, .s v4, .s v5, .i v6, .i v7, .l v8, .l v9, .b v10, .l v11, .l v12]) (sp_query_Pick_17_5.s.h [.l v0, .i v1, .i v2, .s v3, .s v4, .s v5, .i v6, .i v7, .l v8, .l v9, .b v10, .l v11, .l v12]) (idc Try.prog 0 (L_query_Pick 17) 5) =
    (rd_query_Pick_17_5 [.l v0, .i v1, .i v2, .s v3, .s v4, .s v5, .i v6, .i v7, .l v8, .l v9, .b v10, .l v11, .l v12]).go br (fun us' => some (.normal, sp_query_Pick_17_5.s.ts sp_query_Pick_17_5.n us', sp_query_Pick_17_5.s.h us')) sp_query_Pick_17_5.fin := by
  rw [← callF_eq, ← runF_eq]; kernel_rfl
theorem lo_query_Pick_17_5 {R : Type} : LoopTells Try.prog X132 M_query_Pick L_query_Pick 0 (L_query_Pick 17) (bodyOf Try.prog 17 5) (gL (R := R) sp_query_Pick_17_5 rd_query_Pick_17_5 br) :=
  loopTold (callK_ev (loopsOK_list rids noneIn) 40) (lsokIn (loopsOK_list rids noneIn) 17 0 5) (by kernel_rfl) sp_query_Pick_17_5 rd_query_Pick_17_5 rfl (by kernel_rfl) (by
    intro us v h; unfold rd_query_Pick_17_5 at h; split at h
    · rename_i v0 v1 v2 v3 v4 v5 v6 v7 v8 v9 v10 v11 v12; exact rq_query_Pick_17_5 v0 v1 v2 v3 v4 v5 v6 v7 v8 v9 v10 v11 v12
    · cases h)
noncomputable abbrev ll_query_Pick_17_5 {R : Type} : List (Nat × Nat × Nat × Smy R) := (17, 0, 5, gL sp_query_Pick_17_5 rd_query_Pick_17_5 br) :: []
theorem lk_query_Pick_17_5 {R : Type} : ∀ e ∈ ll_query_Pick_17_5 (R := R), LoopTells Try.prog X132 M_query_Pick L_query_Pick e.2.1 (L_query_Pick e.1) (bodyOf Try.prog e.1 e.2.2.1) e.2.2.2 := List.forall_mem_cons.2 ⟨lo_query_Pick_17_5, noneIn⟩
def S_query_Pick : FSp := ⟨[.agg [.s, .s, .s, .i .i64, .i .i64, .l 63, .l 3, .b, .l 165], .one (.l 46)], [], [93000000], [([.one (.all 0)], [.arr 46 true])]⟩
noncomputable def m_query_Pick : List U → Rt
  | [.s v0, .s v1, .s v2, .i v3, .i v4, .l v5, .l v6, .b v7, .l v8, .l v9] =>
    (let r0 : Rs := (Rt.res (m_bag_May [U.l v9]))
    (.test (ok r0 0)
    (.test (!uB (out r0 0) 0)
    (.stop 0 [.l []])
    (let r1 : Rs := (lres rd_query_Pick_17_5 [U.l v9, U.i (ln v9), U.i (0 : Int), U.s v0, U.s v1, U.s v2, U.i v3, U.i v4, U.l v5, U.l v6, U.b v7, U.l v8, U.l []])
    (.test (ok r1 0)
    (let r2 : Rs := (Rt.res (m_bag_Sum [U.l (uL (out r1 0) 0)]))
    (.test (ok r2 0)
    (let r3 : Rs := (Rt.res (m_bag_May [U.l (uL (out r2 0) 0)]))
    (.test (ok r3 0)
    (.test (!uB (out r3 0) 0)
    (.stop 0 [.l []])
    (.stop 0 [.l (uL (out r2 0) 0)]))
    .fail))
    .fail))
    .fail)))
    .fail))
  | _ => .fail
set_option maxRecDepth 100000 in
theorem q_query_Pick (v0 : ByteArray) (v1 : ByteArray) (v2 : ByteArray) (v3 : Int) (v4 : Int) (v5 : List (List PV)) (v6 : List (List PV)) (v7 : Bool) (v8 : List (List PV)) (v9 : List (List PV)) : callK br Try.prog X132 M_query_Pick L_query_Pick (lsT ll_query_Pick_17_5) 60 17 (encs [.s v0, .s v1, .s v2, .i v3, .i v4, .l v5, .l v6, .b v7, .l v8, .l v9] 0 S_query_Pick.ap) (encH [.s v0, .s v1, .s v2, .i v3, .i v4, .l v5, .l v6, .b v7, .l v8, .l v9] (ws S_query_Pick.ap) S_query_Pick.ah) (fun y => fixR Try.prog S_query_Pick.plan S_query_Pick.ah.length y) =
    (m_query_Pick [.s v0, .s v1, .s v2, .i v3, .i v4, .l v5, .l v6, .b v7, .l v8, .l v9]).go br (fun _ => none) S_query_Pick.fin := by
  rw [← callF_eq]; kernel_rfl
theorem e_query_Pick : EOK Try.prog 17 (gF S_query_Pick m_query_Pick) :=
  eokTold mixed named x132 (loopsOK_list rids lk_query_Pick_17_5) 60 S_query_Pick m_query_Pick (by
    intro us v h; unfold m_query_Pick at h; split at h
    · rename_i v0 v1 v2 v3 v4 v5 v6 v7 v8 v9; exact q_query_Pick v0 v1 v2 v3 v4 v5 v6 v7 v8 v9
    · cases h) false
noncomputable abbrev X133 : Ext := extT [(17, (gF S_query_Pick m_query_Pick))] X132
theorem x133 : XOK Try.prog X133 := xok1 x132 e_query_Pick

def L_delta_may : FuncId → Nat → Option (List Nat) := liveT [(63, 2, [5, 6, 7]), (63, 1000002, []), (63, 2000002, [2])]
def M_delta_may : FuncId → Bool := fun _ => false
noncomputable def rd_delta_may_63_2 : List U → Rt
  | [.l v0, .i v1, .i v2] =>
    (.test (decide (v2 < v1))
    (.test (inR v2 (ln v0))
    (let r0 : Rs := (Rt.res (m_bag_May [U.l (cL (el v0 v2) 0)]))
    (.test (ok r0 0)
    (.test (!uB (out r0 0) 0)
    (.stop 0 [.b false])
    (.next [.l v0, .i v1, .i (w64 (v2 + (1 : Int)))]))
    .fail))
    .fail)
    (.stop 1 []))
  | _ => .fail
def sp_delta_may_63_2 : LSp := ⟨15, ⟨[(5, .one (.l 30)), (6, .one (.i .i64)), (7, .one (.i .i64))], []⟩, [(.ret, ⟨[(2, .one (.b))], []⟩), (.exit 0, ⟨[], []⟩)]⟩
set_option maxRecDepth 100000 in
theorem rq_delta_may_63_2 (v0 : List (List PV)) (v1 : Int) (v2 : Int) : runK br Try.prog (callK br Try.prog X133 M_delta_may L_delta_may (lsT []) 40) M_delta_may (lsT [] 63 0) 40 0 (L_delta_may 63) (bodyOf Try.prog 63 2) (sp_delta_may_63_2.s.ts sp_delta_may_63_2.n [.l v0, .i v1, .i v2]) (sp_delta_may_63_2.s.h [.l v0, .i v1, .i v2]) (idc Try.prog 0 (L_delta_may 63) 2) =
    (rd_delta_may_63_2 [.l v0, .i v1, .i v2]).go br (fun us' => some (.normal, sp_delta_may_63_2.s.ts sp_delta_may_63_2.n us', sp_delta_may_63_2.s.h us')) sp_delta_may_63_2.fin := by
  rw [← callF_eq, ← runF_eq]; kernel_rfl
theorem lo_delta_may_63_2 {R : Type} : LoopTells Try.prog X133 M_delta_may L_delta_may 0 (L_delta_may 63) (bodyOf Try.prog 63 2) (gL (R := R) sp_delta_may_63_2 rd_delta_may_63_2 br) :=
  loopTold (callK_ev (loopsOK_list rids noneIn) 40) (lsokIn (loopsOK_list rids noneIn) 63 0 2) (by kernel_rfl) sp_delta_may_63_2 rd_delta_may_63_2 rfl (by kernel_rfl) (by
    intro us v h; unfold rd_delta_may_63_2 at h; split at h
    · rename_i v0 v1 v2; exact rq_delta_may_63_2 v0 v1 v2
    · cases h)
noncomputable abbrev ll_delta_may_63_2 {R : Type} : List (Nat × Nat × Nat × Smy R) := (63, 0, 2, gL sp_delta_may_63_2 rd_delta_may_63_2 br) :: []
theorem lk_delta_may_63_2 {R : Type} : ∀ e ∈ ll_delta_may_63_2 (R := R), LoopTells Try.prog X133 M_delta_may L_delta_may e.2.1 (L_delta_may e.1) (bodyOf Try.prog e.1 e.2.2.1) e.2.2.2 := List.forall_mem_cons.2 ⟨lo_delta_may_63_2, noneIn⟩
def S_delta_may : FSp := ⟨[.one (.l 30)], [], [], [([.one (.b)], [])]⟩
noncomputable def m_delta_may : List U → Rt
  | [.l v0] =>
    (let r0 : Rs := (lres rd_delta_may_63_2 [U.l v0, U.i (ln v0), U.i (0 : Int)])
    (.test (ok r0 0)
    (.stop 0 [.b (uB (out r0 0) 0)])
    (.test (ok r0 1)
    (.stop 0 [.b true])
    .fail)))
  | _ => .fail
set_option maxRecDepth 100000 in
theorem q_delta_may (v0 : List (List PV)) : callK br Try.prog X133 M_delta_may L_delta_may (lsT ll_delta_may_63_2) 60 63 (encs [.l v0] 0 S_delta_may.ap) (encH [.l v0] (ws S_delta_may.ap) S_delta_may.ah) (fun y => fixR Try.prog S_delta_may.plan S_delta_may.ah.length y) =
    (m_delta_may [.l v0]).go br (fun _ => none) S_delta_may.fin := by
  rw [← callF_eq]; kernel_rfl
theorem e_delta_may : EOK Try.prog 63 (gF S_delta_may m_delta_may) :=
  eokTold mixed named x133 (loopsOK_list rids lk_delta_may_63_2) 60 S_delta_may m_delta_may (by
    intro us v h; unfold m_delta_may at h; split at h
    · rename_i v0; exact q_delta_may v0
    · cases h) false
noncomputable abbrev X134 : Ext := extT [(63, (gF S_delta_may m_delta_may))] X133
theorem x134 : XOK Try.prog X134 := xok1 x133 e_delta_may

def L_delta_Product : FuncId → Nat → Option (List Nat) := liveT [(45, 7, [3, 61000008, 50, 51, 52]), (45, 1000007, [8]), (45, 2000007, [6, 7]), (45, 16, [93000013, 73, 74, 75]), (45, 1000016, [13]), (45, 2000016, [6, 7])]
def M_delta_Product : FuncId → Bool := fun _ => false
noncomputable def rd_delta_Product_45_7 : List U → Rt
  | [.i v0, .i v1, .s v2, .s v3, .s v4, .i v5, .i v6, .l v7, .l v8, .b v9, .l v10, .l v11, .l v12] =>
    (.test (decide (v1 < v0))
    (.test (inR v1 (ln v12))
    (.test (decide (Int.toNat v1 < List.length v12))
    (let r0 : Rs := (Rt.res (m_query_Product [U.s v2, U.s v3, U.s v4, U.i v5, U.i v6, U.l v7, U.l v8, U.b v9, U.l v10, U.l (cL (el v12 v1) 0), U.l (cL (el v12 v1) 1)]))
    (.test (ok r0 0)
    (.test (uI (out r0 0) 0 != (0 : Int))
    (.stop 0 [.i (uI (out r0 0) 0)])
    (.test (decide ((List.length v11 + 1) * 24 ≤ 140737488355328))
    (.next [.i v0, .i (w64 (v1 + (1 : Int))), .s v2, .s v3, .s v4, .i v5, .i v6, .l v7, .l v8, .b v9, .l v10, .l (v11 ++ [[PV.lst 46 (uL (out r0 0) 1)]]), .l v12])
    .fail))
    .fail))
    .fail)
    .fail)
    (.stop 1 [.l v11]))
  | _ => .fail
def sp_delta_Product_45_7 : LSp := ⟨89, ⟨[(3, .one (.ptr 0 0)), (8, .one (.all 1)), (50, .one (.all 2)), (51, .one (.i .i64)), (52, .one (.i .i64))], [.box 28 [.one (.s), .one (.s), .one (.s), .one (.i .i64), .one (.i .i64), .one (.l 63), .one (.l 3), .one (.b), .one (.l 165)], .arr 30 true, .arr 101 true]⟩, [(.ret, ⟨[(6, .one (.nils)), (7, .one (.i .i64))], []⟩), (.exit 0, ⟨[(8, .one (.all 0))], [.arr 30 true]⟩)]⟩
set_option maxRecDepth 100000 in
theorem rq_delta_Product_45_7 (v0 : Int) (v1 : Int) (v2 : ByteArray) (v3 : ByteArray) (v4 : ByteArray) (v5 : Int) (v6 : Int) (v7 : List (List PV)) (v8 : List (List PV)) (v9 : Bool) (v10 : List (List PV)) (v11 : List (List PV)) (v12 : List (List PV)) : runK br Try.prog (callK br Try.prog X134 M_delta_Product L_delta_Product (lsT []) 40) M_delta_Product (lsT [] 45 0) 40 0 (L_delta_Product 45) (bodyOf Try.prog 45 7) (sp_delta_Product_45_7.s.ts sp_delta_Product_45_7.n [.i v0, .i v1, .s v2, .s v3, .s v4, .i v5, .i v6, .l v7, .l v8, .b v9, .l v10, .l v11, .l v12]) (sp_delta_Product_45_7.s.h [.i v0, .i v1, .s v2, .s v3, .s v4, .i v5, .i v6, .l v7, .l v8, .b v9, .l v10, .l v11, .l v12]) (idc Try.prog 0 (L_delta_Product 45) 7) =
    (rd_delta_Product_45_7 [.i v0, .i v1, .s v2, .s v3, .s v4, .i v5, .i v6, .l v7, .l v8, .b v9, .l v10, .l v11, .l v12]).go br (fun us' => some (.normal, sp_delta_Product_45_7.s.ts sp_delta_Product_45_7.n us', sp_delta_Product_45_7.s.h us')) sp_delta_Product_45_7.fin := by
  rw [← callF_eq, ← runF_eq]; kernel_rfl
theorem lo_delta_Product_45_7 {R : Type} : LoopTells Try.prog X134 M_delta_Product L_delta_Product 0 (L_delta_Product 45) (bodyOf Try.prog 45 7) (gL (R := R) sp_delta_Product_45_7 rd_delta_Product_45_7 br) :=
  loopTold (callK_ev (loopsOK_list rids noneIn) 40) (lsokIn (loopsOK_list rids noneIn) 45 0 7) (by kernel_rfl) sp_delta_Product_45_7 rd_delta_Product_45_7 rfl (by kernel_rfl) (by
    intro us v h; unfold rd_delta_Product_45_7 at h; split at h
    · rename_i v0 v1 v2 v3 v4 v5 v6 v7 v8 v9 v10 v11 v12; exact rq_delta_Product_45_7 v0 v1 v2 v3 v4 v5 v6 v7 v8 v9 v10 v11 v12
    · cases h)
noncomputable abbrev ll_delta_Product_45_7 {R : Type} : List (Nat × Nat × Nat × Smy R) := (45, 0, 7, gL sp_delta_Product_45_7 rd_delta_Product_45_7 br) :: []
theorem lk_delta_Product_45_7 {R : Type} : ∀ e ∈ ll_delta_Product_45_7 (R := R), LoopTells Try.prog X134 M_delta_Product L_delta_Product e.2.1 (L_delta_Product e.1) (bodyOf Try.prog e.1 e.2.2.1) e.2.2.2 := List.forall_mem_cons.2 ⟨lo_delta_Product_45_7, noneIn⟩
noncomputable def rd_delta_Product_45_16 : List U → Rt
  | [.i v0, .i v1, .l v2, .l v3] =>
    (.test (decide (v1 < v0))
    (.test (inR v1 (ln v3))
    (.test (decide (Int.toNat v1 < List.length v3))
    (.test (decide ((List.length v2 + List.length (cL (el v3 v1) 0)) * 32 ≤ 140737488355328))
    (.next [.i v0, .i (w64 (v1 + (1 : Int))), .l (v2 ++ cL (el v3 v1) 0), .l v3])
    .fail)
    .fail)
    .fail)
    (.stop 0 [.l v2]))
  | _ => .fail
def sp_delta_Product_45_16 : LSp := ⟨89, ⟨[(13, .one (.all 0)), (73, .one (.all 1)), (74, .one (.i .i64)), (75, .one (.i .i64))], [.arr 46 true, .arr 30 true]⟩, [(.exit 2, ⟨[(13, .one (.all 0))], [.arr 46 true]⟩)]⟩
set_option maxRecDepth 100000 in
theorem rq_delta_Product_45_16 (v0 : Int) (v1 : Int) (v2 : List (List PV)) (v3 : List (List PV)) : runK br Try.prog (callK br Try.prog X134 M_delta_Product L_delta_Product (lsT ll_delta_Product_45_7) 40) M_delta_Product (lsT ll_delta_Product_45_7 45 0) 40 0 (L_delta_Product 45) (bodyOf Try.prog 45 16) (sp_delta_Product_45_16.s.ts sp_delta_Product_45_16.n [.i v0, .i v1, .l v2, .l v3]) (sp_delta_Product_45_16.s.h [.i v0, .i v1, .l v2, .l v3]) (idc Try.prog 0 (L_delta_Product 45) 16) =
    (rd_delta_Product_45_16 [.i v0, .i v1, .l v2, .l v3]).go br (fun us' => some (.normal, sp_delta_Product_45_16.s.ts sp_delta_Product_45_16.n us', sp_delta_Product_45_16.s.h us')) sp_delta_Product_45_16.fin := by
  rw [← callF_eq, ← runF_eq]; kernel_rfl
theorem lo_delta_Product_45_16 {R : Type} : LoopTells Try.prog X134 M_delta_Product L_delta_Product 0 (L_delta_Product 45) (bodyOf Try.prog 45 16) (gL (R := R) sp_delta_Product_45_16 rd_delta_Product_45_16 br) :=
  loopTold (callK_ev (loopsOK_list rids lk_delta_Product_45_7) 40) (lsokIn (loopsOK_list rids lk_delta_Product_45_7) 45 0 16) (by kernel_rfl) sp_delta_Product_45_16 rd_delta_Product_45_16 rfl (by kernel_rfl) (by
    intro us v h; unfold rd_delta_Product_45_16 at h; split at h
    · rename_i v0 v1 v2 v3; exact rq_delta_Product_45_16 v0 v1 v2 v3
    · cases h)
noncomputable abbrev ll_delta_Product_45_16 {R : Type} : List (Nat × Nat × Nat × Smy R) := (45, 0, 16, gL sp_delta_Product_45_16 rd_delta_Product_45_16 br) :: ll_delta_Product_45_7
theorem lk_delta_Product_45_16 {R : Type} : ∀ e ∈ ll_delta_Product_45_16 (R := R), LoopTells Try.prog X134 M_delta_Product L_delta_Product e.2.1 (L_delta_Product e.1) (bodyOf Try.prog e.1 e.2.2.1) e.2.2.2 := List.forall_mem_cons.2 ⟨lo_delta_Product_45_16, lk_delta_Product_45_7⟩
def S_delta_Product : FSp := ⟨[.agg [.s, .s, .s, .i .i64, .i .i64, .l 63, .l 3, .b, .l 165], .agg [.l 46, .l 46], .agg [.l 46, .l 46]], [], [93000000], [([.one (.all 0), .one (.i .i64)], [.arr 46 true])]⟩
noncomputable def m_delta_Product : List U → Rt
  | [.s v0, .s v1, .s v2, .i v3, .i v4, .l v5, .l v6, .b v7, .l v8, .l v9, .l v10, .l v11, .l v12] =>
    (let r0 : Rs := (Rt.res (m_delta_may [U.l [[PV.lst 46 v9], [PV.lst 46 v10], [PV.lst 46 v11], [PV.lst 46 v12]]]))
    (.test (ok r0 0)
    (.test (!uB (out r0 0) 0)
    (.stop 0 [.i ((1 : Int)), .l []])
    (.test (ByteArray.toList v2 == [])
    (let r1 : Rs := (Rt.res (m_bag_Plus [U.l [[PV.lst 46 v10]]]))
    (.test (ok r1 0)
    (.stop 0 [.i ((0 : Int)), .l (uL (out r1 0) 0)])
    .fail))
    (let r2 : Rs := (lres rd_delta_Product_45_7 [U.i (3 : Int), U.i (0 : Int), U.s v0, U.s v1, U.s v2, U.i v3, U.i v4, U.l v5, U.l v6, U.b v7, U.l v8, U.l [], U.l [[PV.lst 46 v10, PV.lst 46 v11], [PV.lst 46 v9, PV.lst 46 v12], [PV.lst 46 v10, PV.lst 46 v12]]])
    (.test (ok r2 0)
    (.stop 0 [.i (uI (out r2 0) 0), .l []])
    (.test (ok r2 1)
    (let r3 : Rs := (lres rd_delta_Product_45_16 [U.i (ln (uL (out r2 1) 0)), U.i (0 : Int), U.l [], U.l (uL (out r2 1) 0)])
    (.test (ok r3 0)
    (let r4 : Rs := (Rt.res (m_bag_Sum [U.l (uL (out r3 0) 0)]))
    (.test (ok r4 0)
    (let r5 : Rs := (Rt.res (m_bag_May [U.l (uL (out r4 0) 0)]))
    (.test (ok r5 0)
    (.test (!uB (out r5 0) 0)
    (.stop 0 [.i ((100 : Int)), .l []])
    (.stop 0 [.i ((0 : Int)), .l (uL (out r4 0) 0)]))
    .fail))
    .fail))
    .fail))
    .fail)))))
    .fail))
  | _ => .fail
set_option maxRecDepth 100000 in
theorem q_delta_Product (v0 : ByteArray) (v1 : ByteArray) (v2 : ByteArray) (v3 : Int) (v4 : Int) (v5 : List (List PV)) (v6 : List (List PV)) (v7 : Bool) (v8 : List (List PV)) (v9 : List (List PV)) (v10 : List (List PV)) (v11 : List (List PV)) (v12 : List (List PV)) : callK br Try.prog X134 M_delta_Product L_delta_Product (lsT ll_delta_Product_45_16) 60 45 (encs [.s v0, .s v1, .s v2, .i v3, .i v4, .l v5, .l v6, .b v7, .l v8, .l v9, .l v10, .l v11, .l v12] 0 S_delta_Product.ap) (encH [.s v0, .s v1, .s v2, .i v3, .i v4, .l v5, .l v6, .b v7, .l v8, .l v9, .l v10, .l v11, .l v12] (ws S_delta_Product.ap) S_delta_Product.ah) (fun y => fixR Try.prog S_delta_Product.plan S_delta_Product.ah.length y) =
    (m_delta_Product [.s v0, .s v1, .s v2, .i v3, .i v4, .l v5, .l v6, .b v7, .l v8, .l v9, .l v10, .l v11, .l v12]).go br (fun _ => none) S_delta_Product.fin := by
  rw [← callF_eq]; kernel_rfl
theorem e_delta_Product : EOK Try.prog 45 (gF S_delta_Product m_delta_Product) :=
  eokTold mixed named x134 (loopsOK_list rids lk_delta_Product_45_16) 60 S_delta_Product m_delta_Product (by
    intro us v h; unfold m_delta_Product at h; split at h
    · rename_i v0 v1 v2 v3 v4 v5 v6 v7 v8 v9 v10 v11 v12; exact q_delta_Product v0 v1 v2 v3 v4 v5 v6 v7 v8 v9 v10 v11 v12
    · cases h) false
noncomputable abbrev X135 : Ext := extT [(45, (gF S_delta_Product m_delta_Product))] X134
theorem x135 : XOK Try.prog X135 := xok1 x134 e_delta_Product

def L_delta_Joined : FuncId → Nat → Option (List Nat) := liveT []
def M_delta_Joined : FuncId → Bool := fun _ => false
def S_delta_Joined : FSp := ⟨[.agg [.s, .s, .s, .i .i64, .i .i64, .l 63, .l 3, .b, .l 165], .agg [.l 46, .l 46], .agg [.l 46, .l 46]], [], [93000000], [([.one (.all 0), .one (.i .i64)], [.arr 46 true])]⟩
noncomputable def m_delta_Joined : List U → Rt
  | [.s v0, .s v1, .s v2, .i v3, .i v4, .l v5, .l v6, .b v7, .l v8, .l v9, .l v10, .l v11, .l v12] =>
    (let r0 : Rs := (Rt.res (m_delta_Product [U.s v0, U.s v1, U.s v2, U.i v3, U.i v4, U.l v5, U.l v6, U.b v7, U.l v8, U.l v9, U.l v10, U.l v11, U.l v12]))
    (.test (ok r0 0)
    (.test (uI (out r0 0) 0 != (0 : Int))
    (.stop 0 [.i (uI (out r0 0) 0), .l []])
    (let r1 : Rs := (Rt.res (m_query_Where [U.s v0, U.s v1, U.s v2, U.i v3, U.i v4, U.l v5, U.l v6, U.b v7, U.l v8, U.l (uL (out r0 0) 1)]))
    (.test (ok r1 0)
    (.stop 0 [.i (uI (out r1 0) 0), .l (uL (out r1 0) 1)])
    .fail)))
    .fail))
  | _ => .fail
set_option maxRecDepth 100000 in
theorem q_delta_Joined (v0 : ByteArray) (v1 : ByteArray) (v2 : ByteArray) (v3 : Int) (v4 : Int) (v5 : List (List PV)) (v6 : List (List PV)) (v7 : Bool) (v8 : List (List PV)) (v9 : List (List PV)) (v10 : List (List PV)) (v11 : List (List PV)) (v12 : List (List PV)) : callK br Try.prog X135 M_delta_Joined L_delta_Joined (lsT []) 60 24 (encs [.s v0, .s v1, .s v2, .i v3, .i v4, .l v5, .l v6, .b v7, .l v8, .l v9, .l v10, .l v11, .l v12] 0 S_delta_Joined.ap) (encH [.s v0, .s v1, .s v2, .i v3, .i v4, .l v5, .l v6, .b v7, .l v8, .l v9, .l v10, .l v11, .l v12] (ws S_delta_Joined.ap) S_delta_Joined.ah) (fun y => fixR Try.prog S_delta_Joined.plan S_delta_Joined.ah.length y) =
    (m_delta_Joined [.s v0, .s v1, .s v2, .i v3, .i v4, .l v5, .l v6, .b v7, .l v8, .l v9, .l v10, .l v11, .l v12]).go br (fun _ => none) S_delta_Joined.fin := by
  rw [← callF_eq]; kernel_rfl
theorem e_delta_Joined : EOK Try.prog 24 (gF S_delta_Joined m_delta_Joined) :=
  eokTold mixed named x135 (loopsOK_list rids noneIn) 60 S_delta_Joined m_delta_Joined (by
    intro us v h; unfold m_delta_Joined at h; split at h
    · rename_i v0 v1 v2 v3 v4 v5 v6 v7 v8 v9 v10 v11 v12; exact q_delta_Joined v0 v1 v2 v3 v4 v5 v6 v7 v8 v9 v10 v11 v12
    · cases h) false
noncomputable abbrev X136 : Ext := extT [(24, (gF S_delta_Joined m_delta_Joined))] X135
theorem x136 : XOK Try.prog X136 := xok1 x135 e_delta_Joined

def L_R01_Int : FuncId → Nat → Option (List Nat) := liveT []
def M_R01_Int : FuncId → Bool := fun _ => false
def S_R01_Int : FSp := ⟨[.one (.i .i64)], [], [], [([.agg [.i .i64, .i .i64, .s]], [])]⟩
noncomputable def m_R01_Int : List U → Rt
  | [.i v0] =>
    (.stop 0 [.i ((2 : Int)), .i v0, .s ({ data := #[] })])
  | _ => .fail
set_option maxRecDepth 100000 in
theorem q_R01_Int (v0 : Int) : callK br Try.prog X136 M_R01_Int L_R01_Int (lsT []) 60 26 (encs [.i v0] 0 S_R01_Int.ap) (encH [.i v0] (ws S_R01_Int.ap) S_R01_Int.ah) (fun y => fixR Try.prog S_R01_Int.plan S_R01_Int.ah.length y) =
    (m_R01_Int [.i v0]).go br (fun _ => none) S_R01_Int.fin := by
  rw [← callF_eq]; kernel_rfl
theorem e_R01_Int : EOK Try.prog 26 (gI S_R01_Int m_R01_Int) :=
  eokTold mixed named x136 (loopsOK_list rids noneIn) 60 S_R01_Int m_R01_Int (by
    intro us v h; unfold m_R01_Int at h; split at h
    · rename_i v0; exact q_R01_Int v0
    · cases h) true
noncomputable abbrev X137 : Ext := extT [(26, (gI S_R01_Int m_R01_Int))] X136
theorem x137 : XOK Try.prog X137 := xok1 x136 e_R01_Int

def L_L10_one : FuncId → Nat → Option (List Nat) := liveT []
def M_L10_one : FuncId → Bool := fun _ => false
def S_L10_one : FSp := ⟨[.one (.i .i64), .one (.i .i64)], [], [], [([.one (.all 0)], [.arr 46 true])]⟩
noncomputable def m_L10_one : List U → Rt
  | [.i v0, .i v1] =>
    (.stop 0 [.l ([[PV.lst 48 [[pI (2 : Int), pI v0, pS { data := #[] }]], pI v1]])])
  | _ => .fail
set_option maxRecDepth 100000 in
theorem q_L10_one (v0 : Int) (v1 : Int) : callK br Try.prog X137 M_L10_one L_L10_one (lsT []) 60 27 (encs [.i v0, .i v1] 0 S_L10_one.ap) (encH [.i v0, .i v1] (ws S_L10_one.ap) S_L10_one.ah) (fun y => fixR Try.prog S_L10_one.plan S_L10_one.ah.length y) =
    (m_L10_one [.i v0, .i v1]).go br (fun _ => none) S_L10_one.fin := by
  rw [← callF_eq]; kernel_rfl
theorem e_L10_one : EOK Try.prog 27 (gI S_L10_one m_L10_one) :=
  eokTold mixed named x137 (loopsOK_list rids noneIn) 60 S_L10_one m_L10_one (by
    intro us v h; unfold m_L10_one at h; split at h
    · rename_i v0 v1; exact q_L10_one v0 v1
    · cases h) true
noncomputable abbrev X138 : Ext := extT [(27, (gI S_L10_one m_L10_one))] X137
theorem x138 : XOK Try.prog X138 := xok1 x137 e_L10_one

def L_R05_Fits : FuncId → Nat → Option (List Nat) := liveT []
def M_R05_Fits : FuncId → Bool := fun _ => false
def S_R05_Fits : FSp := ⟨[.one (.i .i64)], [], [], [([.one (.b)], [])]⟩
noncomputable def m_R05_Fits : List U → Rt
  | [.i v0] =>
    (.test (decide (v0 ≥ (-1000000000 : Int)))
    (.stop 0 [.b (decide (v0 ≤ (1000000000 : Int)))])
    (.stop 0 [.b false]))
  | _ => .fail
set_option maxRecDepth 100000 in
theorem q_R05_Fits (v0 : Int) : callK br Try.prog X138 M_R05_Fits L_R05_Fits (lsT []) 60 29 (encs [.i v0] 0 S_R05_Fits.ap) (encH [.i v0] (ws S_R05_Fits.ap) S_R05_Fits.ah) (fun y => fixR Try.prog S_R05_Fits.plan S_R05_Fits.ah.length y) =
    (m_R05_Fits [.i v0]).go br (fun _ => none) S_R05_Fits.fin := by
  rw [← callF_eq]; kernel_rfl
theorem e_R05_Fits : EOK Try.prog 29 (gF S_R05_Fits m_R05_Fits) :=
  eokTold mixed named x138 (loopsOK_list rids noneIn) 60 S_R05_Fits m_R05_Fits (by
    intro us v h; unfold m_R05_Fits at h; split at h
    · rename_i v0; exact q_R05_Fits v0
    · cases h) false
noncomputable abbrev X139 : Ext := extT [(29, (gF S_R05_Fits m_R05_Fits))] X138
theorem x139 : XOK Try.prog X139 := xok1 x138 e_R05_Fits

def L_R01_May : FuncId → Nat → Option (List Nat) := liveT []
def M_R01_May : FuncId → Bool := fun _ => false
def S_R01_May : FSp := ⟨[.agg [.i .i64, .i .i64, .s]], [], [], [([.one (.b)], [])]⟩
noncomputable def m_R01_May : List U → Rt
  | [.i v0, .i v1, .s v2] =>
    (.test (v0 == (0 : Int))
    (.test (ByteArray.toList v2 == [])
    (.test (decide (v1 ≥ (0 : Int)))
    (.stop 0 [.b (decide (v1 ≤ v0))])
    (.stop 0 [.b false]))
    (.stop 0 [.b false]))
    (.test (v0 == (1 : Int))
    (.test (ByteArray.toList v2 == [])
    (.test (decide (v1 ≥ (0 : Int)))
    (.stop 0 [.b (decide (v1 ≤ v0))])
    (.stop 0 [.b false]))
    (.stop 0 [.b false]))
    (.test (v0 == (2 : Int))
    (.stop 0 [.b (ByteArray.toList v2 == [])])
    (.test (v0 == (3 : Int))
    (.test (v1 == (0 : Int))
    (.stop 0 [.b (decide ((↑(ByteArray.size v2) : Int) ≤ (1000 : Int)))])
    (.stop 0 [.b false]))
    (.stop 0 [.b false])))))
  | _ => .fail
set_option maxRecDepth 100000 in
theorem q_R01_May (v0 : Int) (v1 : Int) (v2 : ByteArray) : callK br Try.prog X139 M_R01_May L_R01_May (lsT []) 60 66 (encs [.i v0, .i v1, .s v2] 0 S_R01_May.ap) (encH [.i v0, .i v1, .s v2] (ws S_R01_May.ap) S_R01_May.ah) (fun y => fixR Try.prog S_R01_May.plan S_R01_May.ah.length y) =
    (m_R01_May [.i v0, .i v1, .s v2]).go br (fun _ => none) S_R01_May.fin := by
  rw [← callF_eq]; kernel_rfl
theorem e_R01_May : EOK Try.prog 66 (gF S_R01_May m_R01_May) :=
  eokTold mixed named x139 (loopsOK_list rids noneIn) 60 S_R01_May m_R01_May (by
    intro us v h; unfold m_R01_May at h; split at h
    · rename_i v0 v1 v2; exact q_R01_May v0 v1 v2
    · cases h) false
noncomputable abbrev X140 : Ext := extT [(66, (gF S_R01_May m_R01_May))] X139
theorem x140 : XOK Try.prog X140 := xok1 x139 e_R01_May

def L_R02_May : FuncId → Nat → Option (List Nat) := liveT [(48, 2, [0, 3]), (48, 1000002, []), (48, 2000002, [2])]
def M_R02_May : FuncId → Bool := fun _ => false
noncomputable def rd_R02_May_48_2 : List U → Rt
  | [.l v0, .i v1] =>
    (.test (decide (v1 < ln v0))
    (.test (inR v1 (ln v0))
    (let r0 : Rs := (Rt.res (m_R01_May [U.i (cI (el v0 v1) 0), U.i (cI (el v0 v1) 1), U.s (cS (el v0 v1) 2)]))
    (.test (ok r0 0)
    (.test (!uB (out r0 0) 0)
    (.stop 0 [.b false])
    (.next [.l v0, .i (w64 (v1 + (1 : Int)))]))
    .fail))
    .fail)
    (.stop 1 []))
  | _ => .fail
def sp_R02_May_48_2 : LSp := ⟨16, ⟨[(0, .one (.l 48)), (3, .one (.i .i64))], []⟩, [(.ret, ⟨[(2, .one (.b))], []⟩), (.exit 0, ⟨[], []⟩)]⟩
set_option maxRecDepth 100000 in
theorem rq_R02_May_48_2 (v0 : List (List PV)) (v1 : Int) : runK br Try.prog (callK br Try.prog X140 M_R02_May L_R02_May (lsT []) 40) M_R02_May (lsT [] 48 0) 40 0 (L_R02_May 48) (bodyOf Try.prog 48 2) (sp_R02_May_48_2.s.ts sp_R02_May_48_2.n [.l v0, .i v1]) (sp_R02_May_48_2.s.h [.l v0, .i v1]) (idc Try.prog 0 (L_R02_May 48) 2) =
    (rd_R02_May_48_2 [.l v0, .i v1]).go br (fun us' => some (.normal, sp_R02_May_48_2.s.ts sp_R02_May_48_2.n us', sp_R02_May_48_2.s.h us')) sp_R02_May_48_2.fin := by
  rw [← callF_eq, ← runF_eq]; kernel_rfl
theorem lo_R02_May_48_2 {R : Type} : LoopTells Try.prog X140 M_R02_May L_R02_May 0 (L_R02_May 48) (bodyOf Try.prog 48 2) (gL (R := R) sp_R02_May_48_2 rd_R02_May_48_2 br) :=
  loopTold (callK_ev (loopsOK_list rids noneIn) 40) (lsokIn (loopsOK_list rids noneIn) 48 0 2) (by kernel_rfl) sp_R02_May_48_2 rd_R02_May_48_2 rfl (by kernel_rfl) (by
    intro us v h; unfold rd_R02_May_48_2 at h; split at h
    · rename_i v0 v1; exact rq_R02_May_48_2 v0 v1
    · cases h)
noncomputable abbrev ll_R02_May_48_2 {R : Type} : List (Nat × Nat × Nat × Smy R) := (48, 0, 2, gL sp_R02_May_48_2 rd_R02_May_48_2 br) :: []
theorem lk_R02_May_48_2 {R : Type} : ∀ e ∈ ll_R02_May_48_2 (R := R), LoopTells Try.prog X140 M_R02_May L_R02_May e.2.1 (L_R02_May e.1) (bodyOf Try.prog e.1 e.2.2.1) e.2.2.2 := List.forall_mem_cons.2 ⟨lo_R02_May_48_2, noneIn⟩
def S_R02_May : FSp := ⟨[.one (.l 48)], [], [], [([.one (.b)], [])]⟩
noncomputable def m_R02_May : List U → Rt
  | [.l v0] =>
    (let r0 : Rs := (lres rd_R02_May_48_2 [U.l v0, U.i (0 : Int)])
    (.test (ok r0 0)
    (.stop 0 [.b (uB (out r0 0) 0)])
    (.test (ok r0 1)
    (.stop 0 [.b true])
    .fail)))
  | _ => .fail
set_option maxRecDepth 100000 in
theorem q_R02_May (v0 : List (List PV)) : callK br Try.prog X140 M_R02_May L_R02_May (lsT ll_R02_May_48_2) 60 48 (encs [.l v0] 0 S_R02_May.ap) (encH [.l v0] (ws S_R02_May.ap) S_R02_May.ah) (fun y => fixR Try.prog S_R02_May.plan S_R02_May.ah.length y) =
    (m_R02_May [.l v0]).go br (fun _ => none) S_R02_May.fin := by
  rw [← callF_eq]; kernel_rfl
theorem e_R02_May : EOK Try.prog 48 (gF S_R02_May m_R02_May) :=
  eokTold mixed named x140 (loopsOK_list rids lk_R02_May_48_2) 60 S_R02_May m_R02_May (by
    intro us v h; unfold m_R02_May at h; split at h
    · rename_i v0; exact q_R02_May v0
    · cases h) false
noncomputable abbrev X141 : Ext := extT [(48, (gF S_R02_May m_R02_May))] X140
theorem x141 : XOK Try.prog X141 := xok1 x140 e_R02_May

def L_R04_May : FuncId → Nat → Option (List Nat) := liveT []
def M_R04_May : FuncId → Bool := fun _ => false
def S_R04_May : FSp := ⟨[.one (.l 48)], [], [], [([.one (.b)], [])]⟩
noncomputable def m_R04_May : List U → Rt
  | [.l v0] =>
    (.test (decide (ln v0 ≤ (40 : Int)))
    (let r0 : Rs := (Rt.res (m_R02_May [U.l v0]))
    (.test (ok r0 0)
    (.stop 0 [.b (uB (out r0 0) 0)])
    .fail))
    (.stop 0 [.b false]))
  | _ => .fail
set_option maxRecDepth 100000 in
theorem q_R04_May (v0 : List (List PV)) : callK br Try.prog X141 M_R04_May L_R04_May (lsT []) 60 30 (encs [.l v0] 0 S_R04_May.ap) (encH [.l v0] (ws S_R04_May.ap) S_R04_May.ah) (fun y => fixR Try.prog S_R04_May.plan S_R04_May.ah.length y) =
    (m_R04_May [.l v0]).go br (fun _ => none) S_R04_May.fin := by
  rw [← callF_eq]; kernel_rfl
theorem e_R04_May : EOK Try.prog 30 (gF S_R04_May m_R04_May) :=
  eokTold mixed named x141 (loopsOK_list rids noneIn) 60 S_R04_May m_R04_May (by
    intro us v h; unfold m_R04_May at h; split at h
    · rename_i v0; exact q_R04_May v0
    · cases h) false
noncomputable abbrev X142 : Ext := extT [(30, (gF S_R04_May m_R04_May))] X141
theorem x142 : XOK Try.prog X142 := xok1 x141 e_R04_May

def L_R01_Compare : FuncId → Nat → Option (List Nat) := liveT []
def M_R01_Compare : FuncId → Bool := fun _ => false
def S_R01_Compare : FSp := ⟨[.agg [.i .i64, .i .i64, .s], .agg [.i .i64, .i .i64, .s]], [], [], [([.one (.i .i64)], [])]⟩
noncomputable def m_R01_Compare : List U → Rt
  | [.i v0, .i v1, .s v2, .i v3, .i v4, .s v5] =>
    (.test (v0 != v3)
    (.test (decide (v0 < v3))
    (.stop 0 [.i ((-1 : Int))])
    (.stop 0 [.i ((1 : Int))]))
    (.test (v1 != v4)
    (.test (decide (v1 < v4))
    (.stop 0 [.i ((-1 : Int))])
    (.stop 0 [.i ((1 : Int))]))
    (.test (Op.bytesLess (ByteArray.toList v2) (ByteArray.toList v5))
    (.stop 0 [.i ((-1 : Int))])
    (.test (!(Op.bytesLess (ByteArray.toList v2) (ByteArray.toList v5) || ByteArray.toList v2 == ByteArray.toList v5))
    (.stop 0 [.i ((1 : Int))])
    (.stop 0 [.i ((0 : Int))])))))
  | _ => .fail
set_option maxRecDepth 100000 in
theorem q_R01_Compare (v0 : Int) (v1 : Int) (v2 : ByteArray) (v3 : Int) (v4 : Int) (v5 : ByteArray) : callK br Try.prog X142 M_R01_Compare L_R01_Compare (lsT []) 60 49 (encs [.i v0, .i v1, .s v2, .i v3, .i v4, .s v5] 0 S_R01_Compare.ap) (encH [.i v0, .i v1, .s v2, .i v3, .i v4, .s v5] (ws S_R01_Compare.ap) S_R01_Compare.ah) (fun y => fixR Try.prog S_R01_Compare.plan S_R01_Compare.ah.length y) =
    (m_R01_Compare [.i v0, .i v1, .s v2, .i v3, .i v4, .s v5]).go br (fun _ => none) S_R01_Compare.fin := by
  rw [← callF_eq]; kernel_rfl
theorem e_R01_Compare : EOK Try.prog 49 (gF S_R01_Compare m_R01_Compare) :=
  eokTold mixed named x142 (loopsOK_list rids noneIn) 60 S_R01_Compare m_R01_Compare (by
    intro us v h; unfold m_R01_Compare at h; split at h
    · rename_i v0 v1 v2 v3 v4 v5; exact q_R01_Compare v0 v1 v2 v3 v4 v5
    · cases h) false
noncomputable abbrev X143 : Ext := extT [(49, (gF S_R01_Compare m_R01_Compare))] X142
theorem x143 : XOK Try.prog X143 := xok1 x142 e_R01_Compare

def L_R02_Compare : FuncId → Nat → Option (List Nat) := liveT [(31, 2, [0, 1, 5]), (31, 1000002, [0, 1]), (31, 2000002, [4])]
def M_R02_Compare : FuncId → Bool := fun _ => false
noncomputable def rd_R02_Compare_31_2 : List U → Rt
  | [.l v0, .l v1, .i v2] =>
    (.test (decide (v2 < ln v0))
    (.test (decide (v2 < ln v1))
    (.test (inR v2 (ln v0))
    (.test (inR v2 (ln v1))
    (let r0 : Rs := (Rt.res (m_R01_Compare [U.i (cI (el v0 v2) 0), U.i (cI (el v0 v2) 1), U.s (cS (el v0 v2) 2), U.i (cI (el v1 v2) 0), U.i (cI (el v1 v2) 1), U.s (cS (el v1 v2) 2)]))
    (.test (ok r0 0)
    (.test (uI (out r0 0) 0 != (0 : Int))
    (.stop 0 [.i (uI (out r0 0) 0)])
    (.next [.l v0, .l v1, .i (w64 (v2 + (1 : Int)))]))
    .fail))
    .fail)
    .fail)
    (.stop 1 [.l v0, .l v1]))
    (.stop 1 [.l v0, .l v1]))
  | _ => .fail
def sp_R02_Compare_31_2 : LSp := ⟨41, ⟨[(0, .one (.l 48)), (1, .one (.l 48)), (5, .one (.i .i64))], []⟩, [(.ret, ⟨[(4, .one (.i .i64))], []⟩), (.exit 0, ⟨[(0, .one (.l 48)), (1, .one (.l 48))], []⟩)]⟩
set_option maxRecDepth 100000 in
theorem rq_R02_Compare_31_2 (v0 : List (List PV)) (v1 : List (List PV)) (v2 : Int) : runK br Try.prog (callK br Try.prog X143 M_R02_Compare L_R02_Compare (lsT []) 40) M_R02_Compare (lsT [] 31 0) 40 0 (L_R02_Compare 31) (bodyOf Try.prog 31 2) (sp_R02_Compare_31_2.s.ts sp_R02_Compare_31_2.n [.l v0, .l v1, .i v2]) (sp_R02_Compare_31_2.s.h [.l v0, .l v1, .i v2]) (idc Try.prog 0 (L_R02_Compare 31) 2) =
    (rd_R02_Compare_31_2 [.l v0, .l v1, .i v2]).go br (fun us' => some (.normal, sp_R02_Compare_31_2.s.ts sp_R02_Compare_31_2.n us', sp_R02_Compare_31_2.s.h us')) sp_R02_Compare_31_2.fin := by
  rw [← callF_eq, ← runF_eq]; kernel_rfl
theorem lo_R02_Compare_31_2 {R : Type} : LoopTells Try.prog X143 M_R02_Compare L_R02_Compare 0 (L_R02_Compare 31) (bodyOf Try.prog 31 2) (gL (R := R) sp_R02_Compare_31_2 rd_R02_Compare_31_2 br) :=
  loopTold (callK_ev (loopsOK_list rids noneIn) 40) (lsokIn (loopsOK_list rids noneIn) 31 0 2) (by kernel_rfl) sp_R02_Compare_31_2 rd_R02_Compare_31_2 rfl (by kernel_rfl) (by
    intro us v h; unfold rd_R02_Compare_31_2 at h; split at h
    · rename_i v0 v1 v2; exact rq_R02_Compare_31_2 v0 v1 v2
    · cases h)
noncomputable abbrev ll_R02_Compare_31_2 {R : Type} : List (Nat × Nat × Nat × Smy R) := (31, 0, 2, gL sp_R02_Compare_31_2 rd_R02_Compare_31_2 br) :: []
theorem lk_R02_Compare_31_2 {R : Type} : ∀ e ∈ ll_R02_Compare_31_2 (R := R), LoopTells Try.prog X143 M_R02_Compare L_R02_Compare e.2.1 (L_R02_Compare e.1) (bodyOf Try.prog e.1 e.2.2.1) e.2.2.2 := List.forall_mem_cons.2 ⟨lo_R02_Compare_31_2, noneIn⟩
def S_R02_Compare : FSp := ⟨[.one (.l 48), .one (.l 48)], [], [], [([.one (.i .i64)], [])]⟩
noncomputable def m_R02_Compare : List U → Rt
  | [.l v0, .l v1] =>
    (let r0 : Rs := (lres rd_R02_Compare_31_2 [U.l v0, U.l v1, U.i (0 : Int)])
    (.test (ok r0 0)
    (.stop 0 [.i (uI (out r0 0) 0)])
    (.test (ok r0 1)
    (.test (decide (ln (uL (out r0 1) 0) < ln (uL (out r0 1) 1)))
    (.stop 0 [.i ((-1 : Int))])
    (.test (decide (ln (uL (out r0 1) 0) > ln (uL (out r0 1) 1)))
    (.stop 0 [.i ((1 : Int))])
    (.stop 0 [.i ((0 : Int))])))
    .fail)))
  | _ => .fail
set_option maxRecDepth 100000 in
theorem q_R02_Compare (v0 : List (List PV)) (v1 : List (List PV)) : callK br Try.prog X143 M_R02_Compare L_R02_Compare (lsT ll_R02_Compare_31_2) 60 31 (encs [.l v0, .l v1] 0 S_R02_Compare.ap) (encH [.l v0, .l v1] (ws S_R02_Compare.ap) S_R02_Compare.ah) (fun y => fixR Try.prog S_R02_Compare.plan S_R02_Compare.ah.length y) =
    (m_R02_Compare [.l v0, .l v1]).go br (fun _ => none) S_R02_Compare.fin := by
  rw [← callF_eq]; kernel_rfl
theorem e_R02_Compare : EOK Try.prog 31 (gF S_R02_Compare m_R02_Compare) :=
  eokTold mixed named x143 (loopsOK_list rids lk_R02_Compare_31_2) 60 S_R02_Compare m_R02_Compare (by
    intro us v h; unfold m_R02_Compare at h; split at h
    · rename_i v0 v1; exact q_R02_Compare v0 v1
    · cases h) false
noncomputable abbrev X144 : Ext := extT [(31, (gF S_R02_Compare m_R02_Compare))] X143
theorem x144 : XOK Try.prog X144 := xok1 x143 e_R02_Compare

def L_R05_May : FuncId → Nat → Option (List Nat) := liveT [(12, 2, [0, 3]), (12, 1000002, []), (12, 2000002, [2])]
def M_R05_May : FuncId → Bool := fun _ => false
noncomputable def rd_R05_May_12_2 : List U → Rt
  | [.l v0, .i v1] =>
    (.test (decide (v1 < ln v0))
    (.test (inR v1 (ln v0))
    (.test (cI (el v0 v1) 1 == (0 : Int))
    (.stop 0 [.b false])
    (.test (inR v1 (ln v0))
    (let r0 : Rs := (Rt.res (m_R05_Fits [U.i (cI (el v0 v1) 1)]))
    (.test (ok r0 0)
    (.test (!uB (out r0 0) 0)
    (.stop 0 [.b false])
    (.test (inR v1 (ln v0))
    (let r1 : Rs := (Rt.res (m_R04_May [U.l (cL (el v0 v1) 0)]))
    (.test (ok r1 0)
    (.test (!uB (out r1 0) 0)
    (.stop 0 [.b false])
    (.test (decide (v1 > (0 : Int)))
    (.test (inR (w64 (v1 - (1 : Int))) (ln v0))
    (.test (inR v1 (ln v0))
    (let r2 : Rs := (Rt.res (m_R02_Compare [U.l (cL (el v0 (w64 (v1 - (1 : Int)))) 0), U.l (cL (el v0 v1) 0)]))
    (.test (ok r2 0)
    (.test (decide (uI (out r2 0) 0 ≥ (0 : Int)))
    (.stop 0 [.b false])
    (.next [.l v0, .i (w64 (v1 + (1 : Int)))]))
    .fail))
    .fail)
    .fail)
    (.next [.l v0, .i (w64 (v1 + (1 : Int)))])))
    .fail))
    .fail))
    .fail))
    .fail))
    .fail)
    (.stop 1 []))
  | _ => .fail
def sp_R05_May_12_2 : LSp := ⟨53, ⟨[(0, .one (.l 46)), (3, .one (.i .i64))], []⟩, [(.ret, ⟨[(2, .one (.b))], []⟩), (.exit 0, ⟨[], []⟩)]⟩
set_option maxRecDepth 100000 in
theorem rq_R05_May_12_2 (v0 : List (List PV)) (v1 : Int) : runK br Try.prog (callK br Try.prog X144 M_R05_May L_R05_May (lsT []) 40) M_R05_May (lsT [] 12 0) 40 0 (L_R05_May 12) (bodyOf Try.prog 12 2) (sp_R05_May_12_2.s.ts sp_R05_May_12_2.n [.l v0, .i v1]) (sp_R05_May_12_2.s.h [.l v0, .i v1]) (idc Try.prog 0 (L_R05_May 12) 2) =
    (rd_R05_May_12_2 [.l v0, .i v1]).go br (fun us' => some (.normal, sp_R05_May_12_2.s.ts sp_R05_May_12_2.n us', sp_R05_May_12_2.s.h us')) sp_R05_May_12_2.fin := by
  rw [← callF_eq, ← runF_eq]; kernel_rfl
theorem lo_R05_May_12_2 {R : Type} : LoopTells Try.prog X144 M_R05_May L_R05_May 0 (L_R05_May 12) (bodyOf Try.prog 12 2) (gL (R := R) sp_R05_May_12_2 rd_R05_May_12_2 br) :=
  loopTold (callK_ev (loopsOK_list rids noneIn) 40) (lsokIn (loopsOK_list rids noneIn) 12 0 2) (by kernel_rfl) sp_R05_May_12_2 rd_R05_May_12_2 rfl (by kernel_rfl) (by
    intro us v h; unfold rd_R05_May_12_2 at h; split at h
    · rename_i v0 v1; exact rq_R05_May_12_2 v0 v1
    · cases h)
noncomputable abbrev ll_R05_May_12_2 {R : Type} : List (Nat × Nat × Nat × Smy R) := (12, 0, 2, gL sp_R05_May_12_2 rd_R05_May_12_2 br) :: []
theorem lk_R05_May_12_2 {R : Type} : ∀ e ∈ ll_R05_May_12_2 (R := R), LoopTells Try.prog X144 M_R05_May L_R05_May e.2.1 (L_R05_May e.1) (bodyOf Try.prog e.1 e.2.2.1) e.2.2.2 := List.forall_mem_cons.2 ⟨lo_R05_May_12_2, noneIn⟩
def S_R05_May : FSp := ⟨[.one (.l 46)], [], [], [([.one (.b)], [])]⟩
noncomputable def m_R05_May : List U → Rt
  | [.l v0] =>
    (let r0 : Rs := (lres rd_R05_May_12_2 [U.l v0, U.i (0 : Int)])
    (.test (ok r0 0)
    (.stop 0 [.b (uB (out r0 0) 0)])
    (.test (ok r0 1)
    (.stop 0 [.b true])
    .fail)))
  | _ => .fail
set_option maxRecDepth 100000 in
theorem q_R05_May (v0 : List (List PV)) : callK br Try.prog X144 M_R05_May L_R05_May (lsT ll_R05_May_12_2) 60 12 (encs [.l v0] 0 S_R05_May.ap) (encH [.l v0] (ws S_R05_May.ap) S_R05_May.ah) (fun y => fixR Try.prog S_R05_May.plan S_R05_May.ah.length y) =
    (m_R05_May [.l v0]).go br (fun _ => none) S_R05_May.fin := by
  rw [← callF_eq]; kernel_rfl
theorem e_R05_May : EOK Try.prog 12 (gF S_R05_May m_R05_May) :=
  eokTold mixed named x144 (loopsOK_list rids lk_R05_May_12_2) 60 S_R05_May m_R05_May (by
    intro us v h; unfold m_R05_May at h; split at h
    · rename_i v0; exact q_R05_May v0
    · cases h) false
noncomputable abbrev X145 : Ext := extT [(12, (gF S_R05_May m_R05_May))] X144
theorem x145 : XOK Try.prog X145 := xok1 x144 e_R05_May

def L_R01_Digits : FuncId → Nat → Option (List Nat) := liveT [(65, 2, [0, 3]), (65, 1000002, [0, 3]), (65, 2000002, [2])]
def M_R01_Digits : FuncId → Bool := fun _ => false
noncomputable def rd_R01_Digits_65_2 : List U → Rt
  | [.i v0, .s v1] =>
    (.test (decide (v0 > (9 : Int)))
    (.test (decide ((0 : Int) ≤ Int.tmod v0 (10 : Int) ∧ Int.tmod v0 (10 : Int) ≤ IntKind.wrap IntKind.u64 (Int.tmod v0 (10 : Int) + (1 : Int)) ∧ IntKind.wrap IntKind.u64 (Int.tmod v0 (10 : Int) + (1 : Int)) ≤ (10 : Int)))
    (.test (decide (ByteArray.size (ByteArray.extract { data := #[(48 : UInt8), (49 : UInt8), (50 : UInt8), (51 : UInt8), (52 : UInt8), (53 : UInt8), (54 : UInt8), (55 : UInt8), (56 : UInt8), (57 : UInt8)] } (Int.toNat (Int.tmod v0 (10 : Int))) (Int.toNat (IntKind.wrap IntKind.u64 (Int.tmod v0 (10 : Int) + (1 : Int))))) + ByteArray.size v1 ≤ 9223372036854775807))
    (.next [.i (IntKind.wrap IntKind.u64 (Int.tdiv v0 (10 : Int))), .s (ByteArray.extract { data := #[(48 : UInt8), (49 : UInt8), (50 : UInt8), (51 : UInt8), (52 : UInt8), (53 : UInt8), (54 : UInt8), (55 : UInt8), (56 : UInt8), (57 : UInt8)] } (Int.toNat (Int.tmod v0 (10 : Int))) (Int.toNat (IntKind.wrap IntKind.u64 (Int.tmod v0 (10 : Int) + (1 : Int)))) ++ v1)])
    .fail)
    .fail)
    (.stop 0 [.i v0, .s v1]))
  | _ => .fail
def sp_R01_Digits_65_2 : LSp := ⟨22, ⟨[(0, .one (.i .u64)), (3, .one (.s))], []⟩, [(.exit 0, ⟨[(0, .one (.i .u64)), (3, .one (.s))], []⟩)]⟩
set_option maxRecDepth 100000 in
theorem rq_R01_Digits_65_2 (v0 : Int) (v1 : ByteArray) : runK br Try.prog (callK br Try.prog X145 M_R01_Digits L_R01_Digits (lsT []) 40) M_R01_Digits (lsT [] 65 0) 40 0 (L_R01_Digits 65) (bodyOf Try.prog 65 2) (sp_R01_Digits_65_2.s.ts sp_R01_Digits_65_2.n [.i v0, .s v1]) (sp_R01_Digits_65_2.s.h [.i v0, .s v1]) (idc Try.prog 0 (L_R01_Digits 65) 2) =
    (rd_R01_Digits_65_2 [.i v0, .s v1]).go br (fun us' => some (.normal, sp_R01_Digits_65_2.s.ts sp_R01_Digits_65_2.n us', sp_R01_Digits_65_2.s.h us')) sp_R01_Digits_65_2.fin := by
  rw [← callF_eq, ← runF_eq]; kernel_rfl
theorem lo_R01_Digits_65_2 {R : Type} : LoopTells Try.prog X145 M_R01_Digits L_R01_Digits 0 (L_R01_Digits 65) (bodyOf Try.prog 65 2) (gL (R := R) sp_R01_Digits_65_2 rd_R01_Digits_65_2 br) :=
  loopTold (callK_ev (loopsOK_list rids noneIn) 40) (lsokIn (loopsOK_list rids noneIn) 65 0 2) (by kernel_rfl) sp_R01_Digits_65_2 rd_R01_Digits_65_2 rfl (by kernel_rfl) (by
    intro us v h; unfold rd_R01_Digits_65_2 at h; split at h
    · rename_i v0 v1; exact rq_R01_Digits_65_2 v0 v1
    · cases h)
noncomputable abbrev ll_R01_Digits_65_2 {R : Type} : List (Nat × Nat × Nat × Smy R) := (65, 0, 2, gL sp_R01_Digits_65_2 rd_R01_Digits_65_2 br) :: []
theorem lk_R01_Digits_65_2 {R : Type} : ∀ e ∈ ll_R01_Digits_65_2 (R := R), LoopTells Try.prog X145 M_R01_Digits L_R01_Digits e.2.1 (L_R01_Digits e.1) (bodyOf Try.prog e.1 e.2.2.1) e.2.2.2 := List.forall_mem_cons.2 ⟨lo_R01_Digits_65_2, noneIn⟩
def S_R01_Digits : FSp := ⟨[.one (.i .u64)], [], [], [([.one (.s)], [])]⟩
noncomputable def m_R01_Digits : List U → Rt
  | [.i v0] =>
    (let r0 : Rs := (lres rd_R01_Digits_65_2 [U.i v0, U.s { data := #[] }])
    (.test (ok r0 0)
    (.test (decide ((0 : Int) ≤ uI (out r0 0) 0 ∧ uI (out r0 0) 0 ≤ IntKind.wrap IntKind.u64 (uI (out r0 0) 0 + (1 : Int)) ∧ IntKind.wrap IntKind.u64 (uI (out r0 0) 0 + (1 : Int)) ≤ (10 : Int)))
    (.test (decide (ByteArray.size (ByteArray.extract { data := #[(48 : UInt8), (49 : UInt8), (50 : UInt8), (51 : UInt8), (52 : UInt8), (53 : UInt8), (54 : UInt8), (55 : UInt8), (56 : UInt8), (57 : UInt8)] } (Int.toNat (uI (out r0 0) 0)) (Int.toNat (IntKind.wrap IntKind.u64 (uI (out r0 0) 0 + (1 : Int))))) + ByteArray.size (uS (out r0 0) 1) ≤ 9223372036854775807))
    (.stop 0 [.s (ByteArray.extract { data := #[(48 : UInt8), (49 : UInt8), (50 : UInt8), (51 : UInt8), (52 : UInt8), (53 : UInt8), (54 : UInt8), (55 : UInt8), (56 : UInt8), (57 : UInt8)] } (Int.toNat (uI (out r0 0) 0)) (Int.toNat (IntKind.wrap IntKind.u64 (uI (out r0 0) 0 + (1 : Int)))) ++ uS (out r0 0) 1)])
    .fail)
    .fail)
    .fail))
  | _ => .fail
set_option maxRecDepth 100000 in
theorem q_R01_Digits (v0 : Int) : callK br Try.prog X145 M_R01_Digits L_R01_Digits (lsT ll_R01_Digits_65_2) 60 65 (encs [.i v0] 0 S_R01_Digits.ap) (encH [.i v0] (ws S_R01_Digits.ap) S_R01_Digits.ah) (fun y => fixR Try.prog S_R01_Digits.plan S_R01_Digits.ah.length y) =
    (m_R01_Digits [.i v0]).go br (fun _ => none) S_R01_Digits.fin := by
  rw [← callF_eq]; kernel_rfl
theorem e_R01_Digits : EOK Try.prog 65 (gF S_R01_Digits m_R01_Digits) :=
  eokTold mixed named x145 (loopsOK_list rids lk_R01_Digits_65_2) 60 S_R01_Digits m_R01_Digits (by
    intro us v h; unfold m_R01_Digits at h; split at h
    · rename_i v0; exact q_R01_Digits v0
    · cases h) false
noncomputable abbrev X146 : Ext := extT [(65, (gF S_R01_Digits m_R01_Digits))] X145
theorem x146 : XOK Try.prog X146 := xok1 x145 e_R01_Digits

def L_R01_Signed : FuncId → Nat → Option (List Nat) := liveT []
def M_R01_Signed : FuncId → Bool := fun _ => false
def S_R01_Signed : FSp := ⟨[.one (.i .i64)], [], [], [([.one (.s)], [])]⟩
noncomputable def m_R01_Signed : List U → Rt
  | [.i v0] =>
    (.test (decide (v0 < (0 : Int)))
    (let r0 : Rs := (Rt.res (m_R01_Digits [U.i (IntKind.wrap IntKind.u64 (IntKind.wrap IntKind.u64 (w64 ((0 : Int) - w64 (v0 + (1 : Int)))) + (1 : Int)))]))
    (.test (ok r0 0)
    (.test (decide (1 + ByteArray.size (uS (out r0 0) 0) ≤ 9223372036854775807))
    (.stop 0 [.s ({ data := #[(45 : UInt8)] } ++ uS (out r0 0) 0)])
    .fail)
    .fail))
    (let r1 : Rs := (Rt.res (m_R01_Digits [U.i (IntKind.wrap IntKind.u64 v0)]))
    (.test (ok r1 0)
    (.stop 0 [.s (uS (out r1 0) 0)])
    .fail)))
  | _ => .fail
set_option maxRecDepth 100000 in
theorem q_R01_Signed (v0 : Int) : callK br Try.prog X146 M_R01_Signed L_R01_Signed (lsT []) 60 47 (encs [.i v0] 0 S_R01_Signed.ap) (encH [.i v0] (ws S_R01_Signed.ap) S_R01_Signed.ah) (fun y => fixR Try.prog S_R01_Signed.plan S_R01_Signed.ah.length y) =
    (m_R01_Signed [.i v0]).go br (fun _ => none) S_R01_Signed.fin := by
  rw [← callF_eq]; kernel_rfl
theorem e_R01_Signed : EOK Try.prog 47 (gF S_R01_Signed m_R01_Signed) :=
  eokTold mixed named x146 (loopsOK_list rids noneIn) 60 S_R01_Signed m_R01_Signed (by
    intro us v h; unfold m_R01_Signed at h; split at h
    · rename_i v0; exact q_R01_Signed v0
    · cases h) false
noncomputable abbrev X147 : Ext := extT [(47, (gF S_R01_Signed m_R01_Signed))] X146
theorem x147 : XOK Try.prog X147 := xok1 x146 e_R01_Signed

def L_R01_Text : FuncId → Nat → Option (List Nat) := liveT [(64, 13, [1, 3, 4]), (64, 1000013, [3]), (64, 2000013, [2])]
def M_R01_Text : FuncId → Bool := fun _ => false
noncomputable def rd_R01_Text_64_13 : List U → Rt
  | [.s v0, .i v1, .i v2, .i v3, .s v4] =>
    (.test (decide (v1 < (↑(ByteArray.size v4) : Int)))
    (.test (inR v1 (↑(ByteArray.size v4) : Int))
    (.test ((↑(UInt8.toNat (List.getD (Array.toList (ByteArray.data v4)) (Int.toNat v1) (0 : UInt8))) : Int) == (39 : Int))
    (.test (decide (ByteArray.size v0 + 1 ≤ 9223372036854775807))
    (.test (decide ((0 : Int) ≤ v1 ∧ v1 ≤ w64 (v1 + (1 : Int)) ∧ w64 (v1 + (1 : Int)) ≤ (↑(ByteArray.size v4) : Int)))
    (.test (decide (ByteArray.size (v0 ++ { data := #[(39 : UInt8)] }) + ByteArray.size (ByteArray.extract v4 (Int.toNat v1) (Int.toNat (w64 (v1 + (1 : Int))))) ≤ 9223372036854775807))
    (.next [.s (v0 ++ { data := #[(39 : UInt8)] } ++ ByteArray.extract v4 (Int.toNat v1) (Int.toNat (w64 (v1 + (1 : Int))))), .i (w64 (v1 + (1 : Int))), .i v2, .i v3, .s v4])
    .fail)
    .fail)
    .fail)
    (.test (decide ((0 : Int) ≤ v1 ∧ v1 ≤ w64 (v1 + (1 : Int)) ∧ w64 (v1 + (1 : Int)) ≤ (↑(ByteArray.size v4) : Int)))
    (.test (decide (ByteArray.size v0 + ByteArray.size (ByteArray.extract v4 (Int.toNat v1) (Int.toNat (w64 (v1 + (1 : Int))))) ≤ 9223372036854775807))
    (.next [.s (v0 ++ ByteArray.extract v4 (Int.toNat v1) (Int.toNat (w64 (v1 + (1 : Int))))), .i (w64 (v1 + (1 : Int))), .i v2, .i v3, .s v4])
    .fail)
    .fail))
    .fail)
    (.stop 0 [.s v0]))
  | _ => .fail
def sp_R01_Text_64_13 : LSp := ⟨45, ⟨[(1, .one (.ptr 0 0)), (3, .one (.s)), (4, .one (.i .i64))], [.box 48 [.one (.i .i64), .one (.i .i64), .one (.s)]]⟩, [(.exit 1, ⟨[(3, .one (.s))], []⟩)]⟩
set_option maxRecDepth 100000 in
theorem rq_R01_Text_64_13 (v0 : ByteArray) (v1 : Int) (v2 : Int) (v3 : Int) (v4 : ByteArray) : runK br Try.prog (callK br Try.prog X147 M_R01_Text L_R01_Text (lsT []) 40) M_R01_Text (lsT [] 64 0) 40 0 (L_R01_Text 64) (bodyOf Try.prog 64 13) (sp_R01_Text_64_13.s.ts sp_R01_Text_64_13.n [.s v0, .i v1, .i v2, .i v3, .s v4]) (sp_R01_Text_64_13.s.h [.s v0, .i v1, .i v2, .i v3, .s v4]) (idc Try.prog 0 (L_R01_Text 64) 13) =
    (rd_R01_Text_64_13 [.s v0, .i v1, .i v2, .i v3, .s v4]).go br (fun us' => some (.normal, sp_R01_Text_64_13.s.ts sp_R01_Text_64_13.n us', sp_R01_Text_64_13.s.h us')) sp_R01_Text_64_13.fin := by
  rw [← callF_eq, ← runF_eq]; kernel_rfl
theorem lo_R01_Text_64_13 {R : Type} : LoopTells Try.prog X147 M_R01_Text L_R01_Text 0 (L_R01_Text 64) (bodyOf Try.prog 64 13) (gL (R := R) sp_R01_Text_64_13 rd_R01_Text_64_13 br) :=
  loopTold (callK_ev (loopsOK_list rids noneIn) 40) (lsokIn (loopsOK_list rids noneIn) 64 0 13) (by kernel_rfl) sp_R01_Text_64_13 rd_R01_Text_64_13 rfl (by kernel_rfl) (by
    intro us v h; unfold rd_R01_Text_64_13 at h; split at h
    · rename_i v0 v1 v2 v3 v4; exact rq_R01_Text_64_13 v0 v1 v2 v3 v4
    · cases h)
noncomputable abbrev ll_R01_Text_64_13 {R : Type} : List (Nat × Nat × Nat × Smy R) := (64, 0, 13, gL sp_R01_Text_64_13 rd_R01_Text_64_13 br) :: []
theorem lk_R01_Text_64_13 {R : Type} : ∀ e ∈ ll_R01_Text_64_13 (R := R), LoopTells Try.prog X147 M_R01_Text L_R01_Text e.2.1 (L_R01_Text e.1) (bodyOf Try.prog e.1 e.2.2.1) e.2.2.2 := List.forall_mem_cons.2 ⟨lo_R01_Text_64_13, noneIn⟩
def S_R01_Text : FSp := ⟨[.agg [.i .i64, .i .i64, .s]], [], [], [([.one (.s)], [])]⟩
noncomputable def m_R01_Text : List U → Rt
  | [.i v0, .i v1, .s v2] =>
    (.test (v0 == (0 : Int))
    (.stop 0 [.s ({ data := #[(110 : UInt8), (117 : UInt8), (108 : UInt8), (108 : UInt8)] })])
    (.test (v0 == (1 : Int))
    (.test (v1 == (0 : Int))
    (.stop 0 [.s ({ data := #[(102 : UInt8), (97 : UInt8), (108 : UInt8), (115 : UInt8), (101 : UInt8)] })])
    (.stop 0 [.s ({ data := #[(116 : UInt8), (114 : UInt8), (117 : UInt8), (101 : UInt8)] })]))
    (.test (v0 == (2 : Int))
    (let r0 : Rs := (Rt.res (m_R01_Signed [U.i v1]))
    (.test (ok r0 0)
    (.stop 0 [.s (uS (out r0 0) 0)])
    .fail))
    (.test (v0 == (3 : Int))
    (let r1 : Rs := (lres rd_R01_Text_64_13 [U.s { data := #[(39 : UInt8)] }, U.i (0 : Int), U.i v0, U.i v1, U.s v2])
    (.test (ok r1 0)
    (.test (decide (ByteArray.size (uS (out r1 0) 0) + 1 ≤ 9223372036854775807))
    (.stop 0 [.s (uS (out r1 0) 0 ++ { data := #[(39 : UInt8)] })])
    .fail)
    .fail))
    (.stop 0 [.s ({ data := #[(63 : UInt8)] })])))))
  | _ => .fail
set_option maxRecDepth 100000 in
theorem q_R01_Text (v0 : Int) (v1 : Int) (v2 : ByteArray) : callK br Try.prog X147 M_R01_Text L_R01_Text (lsT ll_R01_Text_64_13) 60 64 (encs [.i v0, .i v1, .s v2] 0 S_R01_Text.ap) (encH [.i v0, .i v1, .s v2] (ws S_R01_Text.ap) S_R01_Text.ah) (fun y => fixR Try.prog S_R01_Text.plan S_R01_Text.ah.length y) =
    (m_R01_Text [.i v0, .i v1, .s v2]).go br (fun _ => none) S_R01_Text.fin := by
  rw [← callF_eq]; kernel_rfl
theorem e_R01_Text : EOK Try.prog 64 (gF S_R01_Text m_R01_Text) :=
  eokTold mixed named x147 (loopsOK_list rids lk_R01_Text_64_13) 60 S_R01_Text m_R01_Text (by
    intro us v h; unfold m_R01_Text at h; split at h
    · rename_i v0 v1 v2; exact q_R01_Text v0 v1 v2
    · cases h) false
noncomputable abbrev X148 : Ext := extT [(64, (gF S_R01_Text m_R01_Text))] X147
theorem x148 : XOK Try.prog X148 := xok1 x147 e_R01_Text

def L_R04_Text : FuncId → Nat → Option (List Nat) := liveT [(46, 3, [0, 3, 4]), (46, 1000003, [3]), (46, 2000003, [2])]
def M_R04_Text : FuncId → Bool := fun _ => false
noncomputable def rd_R04_Text_46_3 : List U → Rt
  | [.l v0, .s v1, .i v2] =>
    (.test (decide (v2 < ln v0))
    (.test (decide (v2 > (0 : Int)))
    (.test (decide (ByteArray.size v1 + 2 ≤ 9223372036854775807))
    (.test (inR v2 (ln v0))
    (let r0 : Rs := (Rt.res (m_R01_Text [U.i (cI (el v0 v2) 0), U.i (cI (el v0 v2) 1), U.s (cS (el v0 v2) 2)]))
    (.test (ok r0 0)
    (.test (decide (ByteArray.size (v1 ++ { data := #[(44 : UInt8), (32 : UInt8)] }) + ByteArray.size (uS (out r0 0) 0) ≤ 9223372036854775807))
    (.next [.l v0, .s (v1 ++ { data := #[(44 : UInt8), (32 : UInt8)] } ++ uS (out r0 0) 0), .i (w64 (v2 + (1 : Int)))])
    .fail)
    .fail))
    .fail)
    .fail)
    (.test (inR v2 (ln v0))
    (let r1 : Rs := (Rt.res (m_R01_Text [U.i (cI (el v0 v2) 0), U.i (cI (el v0 v2) 1), U.s (cS (el v0 v2) 2)]))
    (.test (ok r1 0)
    (.test (decide (ByteArray.size v1 + ByteArray.size (uS (out r1 0) 0) ≤ 9223372036854775807))
    (.next [.l v0, .s (v1 ++ uS (out r1 0) 0), .i (w64 (v2 + (1 : Int)))])
    .fail)
    .fail))
    .fail))
    (.stop 0 [.s v1]))
  | _ => .fail
def sp_R04_Text_46_3 : LSp := ⟨24, ⟨[(0, .one (.l 48)), (3, .one (.s)), (4, .one (.i .i64))], []⟩, [(.exit 0, ⟨[(3, .one (.s))], []⟩)]⟩
set_option maxRecDepth 100000 in
theorem rq_R04_Text_46_3 (v0 : List (List PV)) (v1 : ByteArray) (v2 : Int) : runK br Try.prog (callK br Try.prog X148 M_R04_Text L_R04_Text (lsT []) 40) M_R04_Text (lsT [] 46 0) 40 0 (L_R04_Text 46) (bodyOf Try.prog 46 3) (sp_R04_Text_46_3.s.ts sp_R04_Text_46_3.n [.l v0, .s v1, .i v2]) (sp_R04_Text_46_3.s.h [.l v0, .s v1, .i v2]) (idc Try.prog 0 (L_R04_Text 46) 3) =
    (rd_R04_Text_46_3 [.l v0, .s v1, .i v2]).go br (fun us' => some (.normal, sp_R04_Text_46_3.s.ts sp_R04_Text_46_3.n us', sp_R04_Text_46_3.s.h us')) sp_R04_Text_46_3.fin := by
  rw [← callF_eq, ← runF_eq]; kernel_rfl
theorem lo_R04_Text_46_3 {R : Type} : LoopTells Try.prog X148 M_R04_Text L_R04_Text 0 (L_R04_Text 46) (bodyOf Try.prog 46 3) (gL (R := R) sp_R04_Text_46_3 rd_R04_Text_46_3 br) :=
  loopTold (callK_ev (loopsOK_list rids noneIn) 40) (lsokIn (loopsOK_list rids noneIn) 46 0 3) (by kernel_rfl) sp_R04_Text_46_3 rd_R04_Text_46_3 rfl (by kernel_rfl) (by
    intro us v h; unfold rd_R04_Text_46_3 at h; split at h
    · rename_i v0 v1 v2; exact rq_R04_Text_46_3 v0 v1 v2
    · cases h)
noncomputable abbrev ll_R04_Text_46_3 {R : Type} : List (Nat × Nat × Nat × Smy R) := (46, 0, 3, gL sp_R04_Text_46_3 rd_R04_Text_46_3 br) :: []
theorem lk_R04_Text_46_3 {R : Type} : ∀ e ∈ ll_R04_Text_46_3 (R := R), LoopTells Try.prog X148 M_R04_Text L_R04_Text e.2.1 (L_R04_Text e.1) (bodyOf Try.prog e.1 e.2.2.1) e.2.2.2 := List.forall_mem_cons.2 ⟨lo_R04_Text_46_3, noneIn⟩
def S_R04_Text : FSp := ⟨[.one (.l 48)], [], [], [([.one (.s)], [])]⟩
noncomputable def m_R04_Text : List U → Rt
  | [.l v0] =>
    (let r0 : Rs := (lres rd_R04_Text_46_3 [U.l v0, U.s { data := #[(40 : UInt8)] }, U.i (0 : Int)])
    (.test (ok r0 0)
    (.test (decide (ByteArray.size (uS (out r0 0) 0) + 1 ≤ 9223372036854775807))
    (.stop 0 [.s (uS (out r0 0) 0 ++ { data := #[(41 : UInt8)] })])
    .fail)
    .fail))
  | _ => .fail
set_option maxRecDepth 100000 in
theorem q_R04_Text (v0 : List (List PV)) : callK br Try.prog X148 M_R04_Text L_R04_Text (lsT ll_R04_Text_46_3) 60 46 (encs [.l v0] 0 S_R04_Text.ap) (encH [.l v0] (ws S_R04_Text.ap) S_R04_Text.ah) (fun y => fixR Try.prog S_R04_Text.plan S_R04_Text.ah.length y) =
    (m_R04_Text [.l v0]).go br (fun _ => none) S_R04_Text.fin := by
  rw [← callF_eq]; kernel_rfl
theorem e_R04_Text : EOK Try.prog 46 (gF S_R04_Text m_R04_Text) :=
  eokTold mixed named x148 (loopsOK_list rids lk_R04_Text_46_3) 60 S_R04_Text m_R04_Text (by
    intro us v h; unfold m_R04_Text at h; split at h
    · rename_i v0; exact q_R04_Text v0
    · cases h) false
noncomputable abbrev X149 : Ext := extT [(46, (gF S_R04_Text m_R04_Text))] X148
theorem x149 : XOK Try.prog X149 := xok1 x148 e_R04_Text

def L_R05_Text : FuncId → Nat → Option (List Nat) := liveT [(28, 3, [0, 3, 4]), (28, 1000003, [3]), (28, 2000003, [2])]
def M_R05_Text : FuncId → Bool := fun _ => false
noncomputable def rd_R05_Text_28_3 : List U → Rt
  | [.l v0, .s v1, .i v2] =>
    (.test (decide (v2 < ln v0))
    (let r0 : Rs := (Rt.res (m_R05_May [U.l v0]))
    (.test (ok r0 0)
    (.test (uB (out r0 0) 0)
    (.test (decide (v2 > (0 : Int)))
    (.test (decide (ByteArray.size v1 + 1 ≤ 9223372036854775807))
    (.test (inR v2 (ln v0))
    (let r1 : Rs := (Rt.res (m_R04_Text [U.l (cL (el v0 v2) 0)]))
    (.test (ok r1 0)
    (.test (decide (ByteArray.size (v1 ++ { data := #[(32 : UInt8)] }) + ByteArray.size (uS (out r1 0) 0) ≤ 9223372036854775807))
    (.test (inR v2 (ln v0))
    (.test (cI (el v0 v2) 1 != (1 : Int))
    (.test (inR v2 (ln v0))
    (let r2 : Rs := (Rt.res (m_R01_Signed [U.i (cI (el v0 v2) 1)]))
    (.test (ok r2 0)
    (.test (decide (1 + ByteArray.size (uS (out r2 0) 0) ≤ 9223372036854775807))
    (.test (decide (ByteArray.size (v1 ++ { data := #[(32 : UInt8)] } ++ uS (out r1 0) 0) + ByteArray.size ({ data := #[(42 : UInt8)] } ++ uS (out r2 0) 0) ≤ 9223372036854775807))
    (.next [.l v0, .s (v1 ++ { data := #[(32 : UInt8)] } ++ uS (out r1 0) 0 ++ ({ data := #[(42 : UInt8)] } ++ uS (out r2 0) 0)), .i (w64 (v2 + (1 : Int)))])
    .fail)
    .fail)
    .fail))
    .fail)
    (.next [.l v0, .s (v1 ++ { data := #[(32 : UInt8)] } ++ uS (out r1 0) 0), .i (w64 (v2 + (1 : Int)))]))
    .fail)
    .fail)
    .fail))
    .fail)
    .fail)
    (.test (inR v2 (ln v0))
    (let r3 : Rs := (Rt.res (m_R04_Text [U.l (cL (el v0 v2) 0)]))
    (.test (ok r3 0)
    (.test (decide (ByteArray.size v1 + ByteArray.size (uS (out r3 0) 0) ≤ 9223372036854775807))
    (.test (inR v2 (ln v0))
    (.test (cI (el v0 v2) 1 != (1 : Int))
    (.test (inR v2 (ln v0))
    (let r4 : Rs := (Rt.res (m_R01_Signed [U.i (cI (el v0 v2) 1)]))
    (.test (ok r4 0)
    (.test (decide (1 + ByteArray.size (uS (out r4 0) 0) ≤ 9223372036854775807))
    (.test (decide (ByteArray.size (v1 ++ uS (out r3 0) 0) + ByteArray.size ({ data := #[(42 : UInt8)] } ++ uS (out r4 0) 0) ≤ 9223372036854775807))
    (.next [.l v0, .s (v1 ++ uS (out r3 0) 0 ++ ({ data := #[(42 : UInt8)] } ++ uS (out r4 0) 0)), .i (w64 (v2 + (1 : Int)))])
    .fail)
    .fail)
    .fail))
    .fail)
    (.next [.l v0, .s (v1 ++ uS (out r3 0) 0), .i (w64 (v2 + (1 : Int)))]))
    .fail)
    .fail)
    .fail))
    .fail))
    (.stop 0 [.s v1]))
    .fail))
    (.stop 0 [.s v1]))
  | _ => .fail
def sp_R05_Text_28_3 : LSp := ⟨43, ⟨[(0, .one (.l 46)), (3, .one (.s)), (4, .one (.i .i64))], []⟩, [(.exit 0, ⟨[(3, .one (.s))], []⟩)]⟩
set_option maxRecDepth 100000 in
theorem rq_R05_Text_28_3 (v0 : List (List PV)) (v1 : ByteArray) (v2 : Int) : runK br Try.prog (callK br Try.prog X149 M_R05_Text L_R05_Text (lsT []) 40) M_R05_Text (lsT [] 28 0) 40 0 (L_R05_Text 28) (bodyOf Try.prog 28 3) (sp_R05_Text_28_3.s.ts sp_R05_Text_28_3.n [.l v0, .s v1, .i v2]) (sp_R05_Text_28_3.s.h [.l v0, .s v1, .i v2]) (idc Try.prog 0 (L_R05_Text 28) 3) =
    (rd_R05_Text_28_3 [.l v0, .s v1, .i v2]).go br (fun us' => some (.normal, sp_R05_Text_28_3.s.ts sp_R05_Text_28_3.n us', sp_R05_Text_28_3.s.h us')) sp_R05_Text_28_3.fin := by
  rw [← callF_eq, ← runF_eq]; kernel_rfl
theorem lo_R05_Text_28_3 {R : Type} : LoopTells Try.prog X149 M_R05_Text L_R05_Text 0 (L_R05_Text 28) (bodyOf Try.prog 28 3) (gL (R := R) sp_R05_Text_28_3 rd_R05_Text_28_3 br) :=
  loopTold (callK_ev (loopsOK_list rids noneIn) 40) (lsokIn (loopsOK_list rids noneIn) 28 0 3) (by kernel_rfl) sp_R05_Text_28_3 rd_R05_Text_28_3 rfl (by kernel_rfl) (by
    intro us v h; unfold rd_R05_Text_28_3 at h; split at h
    · rename_i v0 v1 v2; exact rq_R05_Text_28_3 v0 v1 v2
    · cases h)
noncomputable abbrev ll_R05_Text_28_3 {R : Type} : List (Nat × Nat × Nat × Smy R) := (28, 0, 3, gL sp_R05_Text_28_3 rd_R05_Text_28_3 br) :: []
theorem lk_R05_Text_28_3 {R : Type} : ∀ e ∈ ll_R05_Text_28_3 (R := R), LoopTells Try.prog X149 M_R05_Text L_R05_Text e.2.1 (L_R05_Text e.1) (bodyOf Try.prog e.1 e.2.2.1) e.2.2.2 := List.forall_mem_cons.2 ⟨lo_R05_Text_28_3, noneIn⟩
def S_R05_Text : FSp := ⟨[.one (.l 46)], [], [], [([.one (.s)], [])]⟩
noncomputable def m_R05_Text : List U → Rt
  | [.l v0] =>
    (let r0 : Rs := (lres rd_R05_Text_28_3 [U.l v0, U.s { data := #[] }, U.i (0 : Int)])
    (.test (ok r0 0)
    (.stop 0 [.s (uS (out r0 0) 0)])
    .fail))
  | _ => .fail
set_option maxRecDepth 100000 in
theorem q_R05_Text (v0 : List (List PV)) : callK br Try.prog X149 M_R05_Text L_R05_Text (lsT ll_R05_Text_28_3) 60 28 (encs [.l v0] 0 S_R05_Text.ap) (encH [.l v0] (ws S_R05_Text.ap) S_R05_Text.ah) (fun y => fixR Try.prog S_R05_Text.plan S_R05_Text.ah.length y) =
    (m_R05_Text [.l v0]).go br (fun _ => none) S_R05_Text.fin := by
  rw [← callF_eq]; kernel_rfl
theorem e_R05_Text : EOK Try.prog 28 (gF S_R05_Text m_R05_Text) :=
  eokTold mixed named x149 (loopsOK_list rids lk_R05_Text_28_3) 60 S_R05_Text m_R05_Text (by
    intro us v h; unfold m_R05_Text at h; split at h
    · rename_i v0; exact q_R05_Text v0
    · cases h) false
noncomputable abbrev X150 : Ext := extT [(28, (gF S_R05_Text m_R05_Text))] X149
theorem x150 : XOK Try.prog X150 := xok1 x149 e_R05_Text

def L_R05_Same : FuncId → Nat → Option (List Nat) := liveT [(15, 4, [0, 1, 5]), (15, 1000004, []), (15, 2000004, [4])]
def M_R05_Same : FuncId → Bool := fun _ => false
noncomputable def rd_R05_Same_15_4 : List U → Rt
  | [.l v0, .l v1, .i v2] =>
    (.test (decide (v2 < ln v0))
    (.test (inR v2 (ln v0))
    (.test (inR v2 (ln v1))
    (.test (cI (el v0 v2) 1 != cI (el v1 v2) 1)
    (.stop 0 [.b false])
    (.test (inR v2 (ln v0))
    (.test (inR v2 (ln v1))
    (let r0 : Rs := (Rt.res (m_R02_Compare [U.l (cL (el v0 v2) 0), U.l (cL (el v1 v2) 0)]))
    (.test (ok r0 0)
    (.test (uI (out r0 0) 0 != (0 : Int))
    (.stop 0 [.b false])
    (.next [.l v0, .l v1, .i (w64 (v2 + (1 : Int)))]))
    .fail))
    .fail)
    .fail))
    .fail)
    .fail)
    (.stop 1 []))
  | _ => .fail
def sp_R05_Same_15_4 : LSp := ⟨42, ⟨[(0, .one (.l 46)), (1, .one (.l 46)), (5, .one (.i .i64))], []⟩, [(.ret, ⟨[(4, .one (.b))], []⟩), (.exit 0, ⟨[], []⟩)]⟩
set_option maxRecDepth 100000 in
theorem rq_R05_Same_15_4 (v0 : List (List PV)) (v1 : List (List PV)) (v2 : Int) : runK br Try.prog (callK br Try.prog X150 M_R05_Same L_R05_Same (lsT []) 40) M_R05_Same (lsT [] 15 0) 40 0 (L_R05_Same 15) (bodyOf Try.prog 15 4) (sp_R05_Same_15_4.s.ts sp_R05_Same_15_4.n [.l v0, .l v1, .i v2]) (sp_R05_Same_15_4.s.h [.l v0, .l v1, .i v2]) (idc Try.prog 0 (L_R05_Same 15) 4) =
    (rd_R05_Same_15_4 [.l v0, .l v1, .i v2]).go br (fun us' => some (.normal, sp_R05_Same_15_4.s.ts sp_R05_Same_15_4.n us', sp_R05_Same_15_4.s.h us')) sp_R05_Same_15_4.fin := by
  rw [← callF_eq, ← runF_eq]; kernel_rfl
theorem lo_R05_Same_15_4 {R : Type} : LoopTells Try.prog X150 M_R05_Same L_R05_Same 0 (L_R05_Same 15) (bodyOf Try.prog 15 4) (gL (R := R) sp_R05_Same_15_4 rd_R05_Same_15_4 br) :=
  loopTold (callK_ev (loopsOK_list rids noneIn) 40) (lsokIn (loopsOK_list rids noneIn) 15 0 4) (by kernel_rfl) sp_R05_Same_15_4 rd_R05_Same_15_4 rfl (by kernel_rfl) (by
    intro us v h; unfold rd_R05_Same_15_4 at h; split at h
    · rename_i v0 v1 v2; exact rq_R05_Same_15_4 v0 v1 v2
    · cases h)
noncomputable abbrev ll_R05_Same_15_4 {R : Type} : List (Nat × Nat × Nat × Smy R) := (15, 0, 4, gL sp_R05_Same_15_4 rd_R05_Same_15_4 br) :: []
theorem lk_R05_Same_15_4 {R : Type} : ∀ e ∈ ll_R05_Same_15_4 (R := R), LoopTells Try.prog X150 M_R05_Same L_R05_Same e.2.1 (L_R05_Same e.1) (bodyOf Try.prog e.1 e.2.2.1) e.2.2.2 := List.forall_mem_cons.2 ⟨lo_R05_Same_15_4, noneIn⟩
def S_R05_Same : FSp := ⟨[.one (.l 46), .one (.l 46)], [], [], [([.one (.b)], [])]⟩
noncomputable def m_R05_Same : List U → Rt
  | [.l v0, .l v1] =>
    (.test (ln v0 != ln v1)
    (.stop 0 [.b false])
    (let r0 : Rs := (lres rd_R05_Same_15_4 [U.l v0, U.l v1, U.i (0 : Int)])
    (.test (ok r0 0)
    (.stop 0 [.b (uB (out r0 0) 0)])
    (.test (ok r0 1)
    (.stop 0 [.b true])
    .fail))))
  | _ => .fail
set_option maxRecDepth 100000 in
theorem q_R05_Same (v0 : List (List PV)) (v1 : List (List PV)) : callK br Try.prog X150 M_R05_Same L_R05_Same (lsT ll_R05_Same_15_4) 60 15 (encs [.l v0, .l v1] 0 S_R05_Same.ap) (encH [.l v0, .l v1] (ws S_R05_Same.ap) S_R05_Same.ah) (fun y => fixR Try.prog S_R05_Same.plan S_R05_Same.ah.length y) =
    (m_R05_Same [.l v0, .l v1]).go br (fun _ => none) S_R05_Same.fin := by
  rw [← callF_eq]; kernel_rfl
theorem e_R05_Same : EOK Try.prog 15 (gF S_R05_Same m_R05_Same) :=
  eokTold mixed named x150 (loopsOK_list rids lk_R05_Same_15_4) 60 S_R05_Same m_R05_Same (by
    intro us v h; unfold m_R05_Same at h; split at h
    · rename_i v0 v1; exact q_R05_Same v0 v1
    · cases h) false
noncomputable abbrev X151 : Ext := extT [(15, (gF S_R05_Same m_R05_Same))] X150
theorem x151 : XOK Try.prog X151 := xok1 x150 e_R05_Same

def L_L10_fixed : FuncId → Nat → Option (List Nat) := liveT []
def M_L10_fixed : FuncId → Bool := fun f => f == 59 || f == 72 || f == 78 || f == 79 || f == 88 || f == 99
def S_L10_fixed : FSp := ⟨[], [], [], [([.one (.b)], [])]⟩
noncomputable def m_L10_fixed : List U → Rt
  | [] =>
    (.stop 0 [.b true])
  | _ => .fail
set_option maxRecDepth 100000 in
theorem q_L10_fixed : callK br Try.prog XI M_L10_fixed L_L10_fixed (lsT []) 60 10 (encs [] 0 S_L10_fixed.ap) (encH [] (ws S_L10_fixed.ap) S_L10_fixed.ah) (fun y => fixR Try.prog S_L10_fixed.plan S_L10_fixed.ah.length y) =
    (m_L10_fixed []).go br (fun _ => none) S_L10_fixed.fin := by
  rw [← callF_eq]; kernel_rfl
theorem e_L10_fixed : EOK Try.prog 10 (gI S_L10_fixed m_L10_fixed) :=
  eokTold mixed named xI (loopsOK_list rids noneIn) 60 S_L10_fixed m_L10_fixed (by
    intro us v h; unfold m_L10_fixed at h; split at h
    · exact q_L10_fixed
    · cases h) true
noncomputable abbrev X152 : Ext := extT [(10, (gI S_L10_fixed m_L10_fixed))] X151
theorem x152 : XOK Try.prog X152 := xok1 x151 e_L10_fixed

def L_L13_one : FuncId → Nat → Option (List Nat) := liveT []
def M_L13_one : FuncId → Bool := fun _ => false
def S_L13_one : FSp := ⟨[.one (.i .i64), .one (.i .i64)], [], [], [([.one (.all 0)], [.arr 46 true])]⟩
noncomputable def m_L13_one : List U → Rt
  | [.i v0, .i v1] =>
    (.stop 0 [.l ([[PV.lst 48 [[pI (2 : Int), pI v0, pS { data := #[] }]], pI v1]])])
  | _ => .fail
set_option maxRecDepth 100000 in
theorem q_L13_one (v0 : Int) (v1 : Int) : callK br Try.prog X152 M_L13_one L_L13_one (lsT []) 60 44 (encs [.i v0, .i v1] 0 S_L13_one.ap) (encH [.i v0, .i v1] (ws S_L13_one.ap) S_L13_one.ah) (fun y => fixR Try.prog S_L13_one.plan S_L13_one.ah.length y) =
    (m_L13_one [.i v0, .i v1]).go br (fun _ => none) S_L13_one.fin := by
  rw [← callF_eq]; kernel_rfl
theorem e_L13_one : EOK Try.prog 44 (gI S_L13_one m_L13_one) :=
  eokTold mixed named x152 (loopsOK_list rids noneIn) 60 S_L13_one m_L13_one (by
    intro us v h; unfold m_L13_one at h; split at h
    · rename_i v0 v1; exact q_L13_one v0 v1
    · cases h) true
noncomputable abbrev X153 : Ext := extT [(44, (gI S_L13_one m_L13_one))] X152
theorem x153 : XOK Try.prog X153 := xok1 x152 e_L13_one

def L_L13_fixed : FuncId → Nat → Option (List Nat) := liveT []
def M_L13_fixed : FuncId → Bool := fun f => f == 59 || f == 72 || f == 78 || f == 79 || f == 88 || f == 99
def S_L13_fixed : FSp := ⟨[], [], [], [([.one (.b)], [])]⟩
noncomputable def m_L13_fixed : List U → Rt
  | [] =>
    (.stop 0 [.b true])
  | _ => .fail
set_option maxRecDepth 100000 in
theorem q_L13_fixed : callK br Try.prog XI M_L13_fixed L_L13_fixed (lsT []) 60 21 (encs [] 0 S_L13_fixed.ap) (encH [] (ws S_L13_fixed.ap) S_L13_fixed.ah) (fun y => fixR Try.prog S_L13_fixed.plan S_L13_fixed.ah.length y) =
    (m_L13_fixed []).go br (fun _ => none) S_L13_fixed.fin := by
  rw [← callF_eq]; kernel_rfl
theorem e_L13_fixed : EOK Try.prog 21 (gI S_L13_fixed m_L13_fixed) :=
  eokTold mixed named xI (loopsOK_list rids noneIn) 60 S_L13_fixed m_L13_fixed (by
    intro us v h; unfold m_L13_fixed at h; split at h
    · exact q_L13_fixed
    · cases h) true
noncomputable abbrev X154 : Ext := extT [(21, (gI S_L13_fixed m_L13_fixed))] X153
theorem x154 : XOK Try.prog X154 := xok1 x153 e_L13_fixed

def L_R02_Short : FuncId → Nat → Option (List Nat) := liveT [(43, 2, [0, 3]), (43, 1000002, [0]), (43, 2000002, [2])]
def M_R02_Short : FuncId → Bool := fun _ => false
noncomputable def rd_R02_Short_43_2 : List U → Rt
  | [.l v0, .i v1] =>
    (.test (decide (v1 < ln v0))
    (.test (inR v1 (ln v0))
    (.test (decide ((↑(ByteArray.size (cS (el v0 v1) 2)) : Int) > (1000 : Int)))
    (.stop 0 [.b false])
    (.next [.l v0, .i (w64 (v1 + (1 : Int)))]))
    .fail)
    (.stop 1 [.l v0]))
  | _ => .fail
def sp_R02_Short_43_2 : LSp := ⟨20, ⟨[(0, .one (.l 48)), (3, .one (.i .i64))], []⟩, [(.ret, ⟨[(2, .one (.b))], []⟩), (.exit 0, ⟨[(0, .one (.l 48))], []⟩)]⟩
set_option maxRecDepth 100000 in
theorem rq_R02_Short_43_2 (v0 : List (List PV)) (v1 : Int) : runK br Try.prog (callK br Try.prog X154 M_R02_Short L_R02_Short (lsT []) 40) M_R02_Short (lsT [] 43 0) 40 0 (L_R02_Short 43) (bodyOf Try.prog 43 2) (sp_R02_Short_43_2.s.ts sp_R02_Short_43_2.n [.l v0, .i v1]) (sp_R02_Short_43_2.s.h [.l v0, .i v1]) (idc Try.prog 0 (L_R02_Short 43) 2) =
    (rd_R02_Short_43_2 [.l v0, .i v1]).go br (fun us' => some (.normal, sp_R02_Short_43_2.s.ts sp_R02_Short_43_2.n us', sp_R02_Short_43_2.s.h us')) sp_R02_Short_43_2.fin := by
  rw [← callF_eq, ← runF_eq]; kernel_rfl
theorem lo_R02_Short_43_2 {R : Type} : LoopTells Try.prog X154 M_R02_Short L_R02_Short 0 (L_R02_Short 43) (bodyOf Try.prog 43 2) (gL (R := R) sp_R02_Short_43_2 rd_R02_Short_43_2 br) :=
  loopTold (callK_ev (loopsOK_list rids noneIn) 40) (lsokIn (loopsOK_list rids noneIn) 43 0 2) (by kernel_rfl) sp_R02_Short_43_2 rd_R02_Short_43_2 rfl (by kernel_rfl) (by
    intro us v h; unfold rd_R02_Short_43_2 at h; split at h
    · rename_i v0 v1; exact rq_R02_Short_43_2 v0 v1
    · cases h)
noncomputable abbrev ll_R02_Short_43_2 {R : Type} : List (Nat × Nat × Nat × Smy R) := (43, 0, 2, gL sp_R02_Short_43_2 rd_R02_Short_43_2 br) :: []
theorem lk_R02_Short_43_2 {R : Type} : ∀ e ∈ ll_R02_Short_43_2 (R := R), LoopTells Try.prog X154 M_R02_Short L_R02_Short e.2.1 (L_R02_Short e.1) (bodyOf Try.prog e.1 e.2.2.1) e.2.2.2 := List.forall_mem_cons.2 ⟨lo_R02_Short_43_2, noneIn⟩
def S_R02_Short : FSp := ⟨[.one (.l 48)], [], [], [([.one (.b)], [])]⟩
noncomputable def m_R02_Short : List U → Rt
  | [.l v0] =>
    (let r0 : Rs := (lres rd_R02_Short_43_2 [U.l v0, U.i (0 : Int)])
    (.test (ok r0 0)
    (.stop 0 [.b (uB (out r0 0) 0)])
    (.test (ok r0 1)
    (.stop 0 [.b (decide (ln (uL (out r0 1) 0) ≤ (40 : Int)))])
    .fail)))
  | _ => .fail
set_option maxRecDepth 100000 in
theorem q_R02_Short (v0 : List (List PV)) : callK br Try.prog X154 M_R02_Short L_R02_Short (lsT ll_R02_Short_43_2) 60 43 (encs [.l v0] 0 S_R02_Short.ap) (encH [.l v0] (ws S_R02_Short.ap) S_R02_Short.ah) (fun y => fixR Try.prog S_R02_Short.plan S_R02_Short.ah.length y) =
    (m_R02_Short [.l v0]).go br (fun _ => none) S_R02_Short.fin := by
  rw [← callF_eq]; kernel_rfl
theorem e_R02_Short : EOK Try.prog 43 (gF S_R02_Short m_R02_Short) :=
  eokTold mixed named x154 (loopsOK_list rids lk_R02_Short_43_2) 60 S_R02_Short m_R02_Short (by
    intro us v h; unfold m_R02_Short at h; split at h
    · rename_i v0; exact q_R02_Short v0
    · cases h) false
noncomputable abbrev X155 : Ext := extT [(43, (gF S_R02_Short m_R02_Short))] X154
theorem x155 : XOK Try.prog X155 := xok1 x154 e_R02_Short

def L_R05_Small : FuncId → Nat → Option (List Nat) := liveT [(20, 2, [0, 3]), (20, 1000002, [0]), (20, 2000002, [2])]
def M_R05_Small : FuncId → Bool := fun _ => false
noncomputable def rd_R05_Small_20_2 : List U → Rt
  | [.l v0, .i v1] =>
    (.test (decide (v1 < ln v0))
    (.test (inR v1 (ln v0))
    (let r0 : Rs := (Rt.res (m_R02_Short [U.l (cL (el v0 v1) 0)]))
    (.test (ok r0 0)
    (.test (!uB (out r0 0) 0)
    (.stop 0 [.b false])
    (.next [.l v0, .i (w64 (v1 + (1 : Int)))]))
    .fail))
    .fail)
    (.stop 1 [.l v0]))
  | _ => .fail
def sp_R05_Small_20_2 : LSp := ⟨20, ⟨[(0, .one (.l 46)), (3, .one (.i .i64))], []⟩, [(.ret, ⟨[(2, .one (.b))], []⟩), (.exit 0, ⟨[(0, .one (.l 46))], []⟩)]⟩
set_option maxRecDepth 100000 in
theorem rq_R05_Small_20_2 (v0 : List (List PV)) (v1 : Int) : runK br Try.prog (callK br Try.prog X155 M_R05_Small L_R05_Small (lsT []) 40) M_R05_Small (lsT [] 20 0) 40 0 (L_R05_Small 20) (bodyOf Try.prog 20 2) (sp_R05_Small_20_2.s.ts sp_R05_Small_20_2.n [.l v0, .i v1]) (sp_R05_Small_20_2.s.h [.l v0, .i v1]) (idc Try.prog 0 (L_R05_Small 20) 2) =
    (rd_R05_Small_20_2 [.l v0, .i v1]).go br (fun us' => some (.normal, sp_R05_Small_20_2.s.ts sp_R05_Small_20_2.n us', sp_R05_Small_20_2.s.h us')) sp_R05_Small_20_2.fin := by
  rw [← callF_eq, ← runF_eq]; kernel_rfl
theorem lo_R05_Small_20_2 {R : Type} : LoopTells Try.prog X155 M_R05_Small L_R05_Small 0 (L_R05_Small 20) (bodyOf Try.prog 20 2) (gL (R := R) sp_R05_Small_20_2 rd_R05_Small_20_2 br) :=
  loopTold (callK_ev (loopsOK_list rids noneIn) 40) (lsokIn (loopsOK_list rids noneIn) 20 0 2) (by kernel_rfl) sp_R05_Small_20_2 rd_R05_Small_20_2 rfl (by kernel_rfl) (by
    intro us v h; unfold rd_R05_Small_20_2 at h; split at h
    · rename_i v0 v1; exact rq_R05_Small_20_2 v0 v1
    · cases h)
noncomputable abbrev ll_R05_Small_20_2 {R : Type} : List (Nat × Nat × Nat × Smy R) := (20, 0, 2, gL sp_R05_Small_20_2 rd_R05_Small_20_2 br) :: []
theorem lk_R05_Small_20_2 {R : Type} : ∀ e ∈ ll_R05_Small_20_2 (R := R), LoopTells Try.prog X155 M_R05_Small L_R05_Small e.2.1 (L_R05_Small e.1) (bodyOf Try.prog e.1 e.2.2.1) e.2.2.2 := List.forall_mem_cons.2 ⟨lo_R05_Small_20_2, noneIn⟩
def S_R05_Small : FSp := ⟨[.one (.l 46)], [], [], [([.one (.b)], [])]⟩
noncomputable def m_R05_Small : List U → Rt
  | [.l v0] =>
    (let r0 : Rs := (lres rd_R05_Small_20_2 [U.l v0, U.i (0 : Int)])
    (.test (ok r0 0)
    (.stop 0 [.b (uB (out r0 0) 0)])
    (.test (ok r0 1)
    (.stop 0 [.b (decide (ln (uL (out r0 1) 0) ≤ (60 : Int)))])
    .fail)))
  | _ => .fail
set_option maxRecDepth 100000 in
theorem q_R05_Small (v0 : List (List PV)) : callK br Try.prog X155 M_R05_Small L_R05_Small (lsT ll_R05_Small_20_2) 60 20 (encs [.l v0] 0 S_R05_Small.ap) (encH [.l v0] (ws S_R05_Small.ap) S_R05_Small.ah) (fun y => fixR Try.prog S_R05_Small.plan S_R05_Small.ah.length y) =
    (m_R05_Small [.l v0]).go br (fun _ => none) S_R05_Small.fin := by
  rw [← callF_eq]; kernel_rfl
theorem e_R05_Small : EOK Try.prog 20 (gF S_R05_Small m_R05_Small) :=
  eokTold mixed named x155 (loopsOK_list rids lk_R05_Small_20_2) 60 S_R05_Small m_R05_Small (by
    intro us v h; unfold m_R05_Small at h; split at h
    · rename_i v0; exact q_R05_Small v0
    · cases h) false
noncomputable abbrev X156 : Ext := extT [(20, (gF S_R05_Small m_R05_Small))] X155
theorem x156 : XOK Try.prog X156 := xok1 x155 e_R05_Small

def L_R10_Low : FuncId → Nat → Option (List Nat) := liveT [(11, 2, [0, 3]), (11, 1000002, [0]), (11, 2000002, [2])]
def M_R10_Low : FuncId → Bool := fun _ => false
noncomputable def rd_R10_Low_11_2 : List U → Rt
  | [.l v0, .i v1] =>
    (.test (decide (v1 < ln v0))
    (.test (inR v1 (ln v0))
    (.test (decide (cI (el v0 v1) 1 > (1000 : Int)))
    (.stop 0 [.b false])
    (.test (inR v1 (ln v0))
    (.test (decide (cI (el v0 v1) 1 < (-1000 : Int)))
    (.stop 0 [.b false])
    (.next [.l v0, .i (w64 (v1 + (1 : Int)))]))
    .fail))
    .fail)
    (.stop 1 [.l v0]))
  | _ => .fail
def sp_R10_Low_11_2 : LSp := ⟨26, ⟨[(0, .one (.l 46)), (3, .one (.i .i64))], []⟩, [(.ret, ⟨[(2, .one (.b))], []⟩), (.exit 0, ⟨[(0, .one (.l 46))], []⟩)]⟩
set_option maxRecDepth 100000 in
theorem rq_R10_Low_11_2 (v0 : List (List PV)) (v1 : Int) : runK br Try.prog (callK br Try.prog X156 M_R10_Low L_R10_Low (lsT []) 40) M_R10_Low (lsT [] 11 0) 40 0 (L_R10_Low 11) (bodyOf Try.prog 11 2) (sp_R10_Low_11_2.s.ts sp_R10_Low_11_2.n [.l v0, .i v1]) (sp_R10_Low_11_2.s.h [.l v0, .i v1]) (idc Try.prog 0 (L_R10_Low 11) 2) =
    (rd_R10_Low_11_2 [.l v0, .i v1]).go br (fun us' => some (.normal, sp_R10_Low_11_2.s.ts sp_R10_Low_11_2.n us', sp_R10_Low_11_2.s.h us')) sp_R10_Low_11_2.fin := by
  rw [← callF_eq, ← runF_eq]; kernel_rfl
theorem lo_R10_Low_11_2 {R : Type} : LoopTells Try.prog X156 M_R10_Low L_R10_Low 0 (L_R10_Low 11) (bodyOf Try.prog 11 2) (gL (R := R) sp_R10_Low_11_2 rd_R10_Low_11_2 br) :=
  loopTold (callK_ev (loopsOK_list rids noneIn) 40) (lsokIn (loopsOK_list rids noneIn) 11 0 2) (by kernel_rfl) sp_R10_Low_11_2 rd_R10_Low_11_2 rfl (by kernel_rfl) (by
    intro us v h; unfold rd_R10_Low_11_2 at h; split at h
    · rename_i v0 v1; exact rq_R10_Low_11_2 v0 v1
    · cases h)
noncomputable abbrev ll_R10_Low_11_2 {R : Type} : List (Nat × Nat × Nat × Smy R) := (11, 0, 2, gL sp_R10_Low_11_2 rd_R10_Low_11_2 br) :: []
theorem lk_R10_Low_11_2 {R : Type} : ∀ e ∈ ll_R10_Low_11_2 (R := R), LoopTells Try.prog X156 M_R10_Low L_R10_Low e.2.1 (L_R10_Low e.1) (bodyOf Try.prog e.1 e.2.2.1) e.2.2.2 := List.forall_mem_cons.2 ⟨lo_R10_Low_11_2, noneIn⟩
def S_R10_Low : FSp := ⟨[.one (.l 46)], [], [], [([.one (.b)], [])]⟩
noncomputable def m_R10_Low : List U → Rt
  | [.l v0] =>
    (let r0 : Rs := (lres rd_R10_Low_11_2 [U.l v0, U.i (0 : Int)])
    (.test (ok r0 0)
    (.stop 0 [.b (uB (out r0 0) 0)])
    (.test (ok r0 1)
    (let r1 : Rs := (Rt.res (m_R05_Small [U.l (uL (out r0 1) 0)]))
    (.test (ok r1 0)
    (.stop 0 [.b (uB (out r1 0) 0)])
    .fail))
    .fail)))
  | _ => .fail
set_option maxRecDepth 100000 in
theorem q_R10_Low (v0 : List (List PV)) : callK br Try.prog X156 M_R10_Low L_R10_Low (lsT ll_R10_Low_11_2) 60 11 (encs [.l v0] 0 S_R10_Low.ap) (encH [.l v0] (ws S_R10_Low.ap) S_R10_Low.ah) (fun y => fixR Try.prog S_R10_Low.plan S_R10_Low.ah.length y) =
    (m_R10_Low [.l v0]).go br (fun _ => none) S_R10_Low.fin := by
  rw [← callF_eq]; kernel_rfl
theorem e_R10_Low : EOK Try.prog 11 (gF S_R10_Low m_R10_Low) :=
  eokTold mixed named x156 (loopsOK_list rids lk_R10_Low_11_2) 60 S_R10_Low m_R10_Low (by
    intro us v h; unfold m_R10_Low at h; split at h
    · rename_i v0; exact q_R10_Low v0
    · cases h) false
noncomputable abbrev X157 : Ext := extT [(11, (gF S_R10_Low m_R10_Low))] X156
theorem x157 : XOK Try.prog X157 := xok1 x156 e_R10_Low

def L_R10_At : FuncId → Nat → Option (List Nat) := liveT []
def M_R10_At : FuncId → Bool := fun _ => false
def S_R10_At : FSp := ⟨[.one (.l 48), .one (.i .i64)], [], [], [([.agg [.i .i64, .i .i64, .s]], [])]⟩
noncomputable def m_R10_At : List U → Rt
  | [.l v0, .i v1] =>
    (.test (decide (v1 < (0 : Int)))
    (.stop 0 [.i ((0 : Int)), .i ((0 : Int)), .s ({ data := #[] })])
    (.test (decide (v1 ≥ ln v0))
    (.stop 0 [.i ((0 : Int)), .i ((0 : Int)), .s ({ data := #[] })])
    (.test (inR v1 (ln v0))
    (.stop 0 [.i (cI (el v0 v1) 0), .i (cI (el v0 v1) 1), .s (cS (el v0 v1) 2)])
    .fail)))
  | _ => .fail
set_option maxRecDepth 100000 in
theorem q_R10_At (v0 : List (List PV)) (v1 : Int) : callK br Try.prog X157 M_R10_At L_R10_At (lsT []) 60 18 (encs [.l v0, .i v1] 0 S_R10_At.ap) (encH [.l v0, .i v1] (ws S_R10_At.ap) S_R10_At.ah) (fun y => fixR Try.prog S_R10_At.plan S_R10_At.ah.length y) =
    (m_R10_At [.l v0, .i v1]).go br (fun _ => none) S_R10_At.fin := by
  rw [← callF_eq]; kernel_rfl
theorem e_R10_At : EOK Try.prog 18 (gF S_R10_At m_R10_At) :=
  eokTold mixed named x157 (loopsOK_list rids noneIn) 60 S_R10_At m_R10_At (by
    intro us v h; unfold m_R10_At at h; split at h
    · rename_i v0 v1; exact q_R10_At v0 v1
    · cases h) false
noncomputable abbrev X158 : Ext := extT [(18, (gF S_R10_At m_R10_At))] X157
theorem x158 : XOK Try.prog X158 := xok1 x157 e_R10_At

def L_R05_Add : FuncId → Nat → Option (List Nat) := liveT [(32, 4, [0, 1, 2, 7, 8, 9]), (32, 1000004, [1, 2, 7, 8]), (32, 2000004, [6])]
def M_R05_Add : FuncId → Bool := fun _ => false
noncomputable def rd_R05_Add_32_4 : List U → Rt
  | [.l v0, .l v1, .i v2, .b v3, .i v4, .l v5] =>
    (.test (decide (v4 < ln v0))
    (.test (inR v4 (ln v0))
    (let r0 : Rs := (Rt.res (m_R02_Compare [U.l (cL (el v0 v4) 0), U.l v1]))
    (.test (ok r0 0)
    (.test (decide (uI (out r0 0) 0 ≥ (0 : Int)))
    (.test (!v3)
    (.test (uI (out r0 0) 0 == (0 : Int))
    (.test (inR v4 (ln v0))
    (.test (w64 (v2 + cI (el v0 v4) 1) != (0 : Int))
    (.test (decide ((List.length v5 + 1) * 32 ≤ 140737488355328))
    (.test (uI (out r0 0) 0 != (0 : Int))
    (.test (inR v4 (ln v0))
    (.test (decide ((List.length (v5 ++ [[PV.lst 48 v1, pI (w64 (v2 + cI (el v0 v4) 1))]]) + 1) * 32 ≤ 140737488355328))
    (.next [.l v0, .l v1, .i v2, .b true, .i (w64 (v4 + (1 : Int))), .l (v5 ++ [[PV.lst 48 v1, pI (w64 (v2 + cI (el v0 v4) 1))]] ++ [[PV.lst 48 (cL (el v0 v4) 0), pI (cI (el v0 v4) 1)]])])
    .fail)
    .fail)
    (.next [.l v0, .l v1, .i v2, .b true, .i (w64 (v4 + (1 : Int))), .l (v5 ++ [[PV.lst 48 v1, pI (w64 (v2 + cI (el v0 v4) 1))]])]))
    .fail)
    (.test (uI (out r0 0) 0 != (0 : Int))
    (.test (inR v4 (ln v0))
    (.test (decide ((List.length v5 + 1) * 32 ≤ 140737488355328))
    (.next [.l v0, .l v1, .i v2, .b true, .i (w64 (v4 + (1 : Int))), .l (v5 ++ [[PV.lst 48 (cL (el v0 v4) 0), pI (cI (el v0 v4) 1)]])])
    .fail)
    .fail)
    (.next [.l v0, .l v1, .i v2, .b true, .i (w64 (v4 + (1 : Int))), .l v5])))
    .fail)
    (.test (v2 != (0 : Int))
    (.test (decide ((List.length v5 + 1) * 32 ≤ 140737488355328))
    (.test (uI (out r0 0) 0 != (0 : Int))
    (.test (inR v4 (ln v0))
    (.test (decide ((List.length (v5 ++ [[PV.lst 48 v1, pI v2]]) + 1) * 32 ≤ 140737488355328))
    (.next [.l v0, .l v1, .i v2, .b true, .i (w64 (v4 + (1 : Int))), .l (v5 ++ [[PV.lst 48 v1, pI v2]] ++ [[PV.lst 48 (cL (el v0 v4) 0), pI (cI (el v0 v4) 1)]])])
    .fail)
    .fail)
    (.next [.l v0, .l v1, .i v2, .b true, .i (w64 (v4 + (1 : Int))), .l (v5 ++ [[PV.lst 48 v1, pI v2]])]))
    .fail)
    (.test (uI (out r0 0) 0 != (0 : Int))
    (.test (inR v4 (ln v0))
    (.test (decide ((List.length v5 + 1) * 32 ≤ 140737488355328))
    (.next [.l v0, .l v1, .i v2, .b true, .i (w64 (v4 + (1 : Int))), .l (v5 ++ [[PV.lst 48 (cL (el v0 v4) 0), pI (cI (el v0 v4) 1)]])])
    .fail)
    .fail)
    (.next [.l v0, .l v1, .i v2, .b true, .i (w64 (v4 + (1 : Int))), .l v5]))))
    (.test (uI (out r0 0) 0 != (0 : Int))
    (.test (inR v4 (ln v0))
    (.test (decide ((List.length v5 + 1) * 32 ≤ 140737488355328))
    (.next [.l v0, .l v1, .i v2, .b v3, .i (w64 (v4 + (1 : Int))), .l (v5 ++ [[PV.lst 48 (cL (el v0 v4) 0), pI (cI (el v0 v4) 1)]])])
    .fail)
    .fail)
    (.next [.l v0, .l v1, .i v2, .b v3, .i (w64 (v4 + (1 : Int))), .l v5])))
    (.test (uI (out r0 0) 0 != (0 : Int))
    (.test (inR v4 (ln v0))
    (.test (decide ((List.length v5 + 1) * 32 ≤ 140737488355328))
    (.next [.l v0, .l v1, .i v2, .b v3, .i (w64 (v4 + (1 : Int))), .l (v5 ++ [[PV.lst 48 (cL (el v0 v4) 0), pI (cI (el v0 v4) 1)]])])
    .fail)
    .fail)
    (.next [.l v0, .l v1, .i v2, .b v3, .i (w64 (v4 + (1 : Int))), .l v5])))
    .fail))
    .fail)
    (.stop 0 [.l v1, .i v2, .b v3, .l v5]))
  | _ => .fail
def sp_R05_Add_32_4 : LSp := ⟨72, ⟨[(0, .one (.l 46)), (1, .one (.l 48)), (2, .one (.i .i64)), (7, .one (.all 0)), (8, .one (.b)), (9, .one (.i .i64))], [.arr 46 true]⟩, [(.exit 0, ⟨[(1, .one (.l 48)), (2, .one (.i .i64)), (7, .one (.all 0)), (8, .one (.b))], [.arr 46 true]⟩)]⟩
set_option maxRecDepth 100000 in
theorem rq_R05_Add_32_4 (v0 : List (List PV)) (v1 : List (List PV)) (v2 : Int) (v3 : Bool) (v4 : Int) (v5 : List (List PV)) : runK br Try.prog (callK br Try.prog X158 M_R05_Add L_R05_Add (lsT []) 40) M_R05_Add (lsT [] 32 0) 40 0 (L_R05_Add 32) (bodyOf Try.prog 32 4) (sp_R05_Add_32_4.s.ts sp_R05_Add_32_4.n [.l v0, .l v1, .i v2, .b v3, .i v4, .l v5]) (sp_R05_Add_32_4.s.h [.l v0, .l v1, .i v2, .b v3, .i v4, .l v5]) (idc Try.prog 0 (L_R05_Add 32) 4) =
    (rd_R05_Add_32_4 [.l v0, .l v1, .i v2, .b v3, .i v4, .l v5]).go br (fun us' => some (.normal, sp_R05_Add_32_4.s.ts sp_R05_Add_32_4.n us', sp_R05_Add_32_4.s.h us')) sp_R05_Add_32_4.fin := by
  rw [← callF_eq, ← runF_eq]; kernel_rfl
theorem lo_R05_Add_32_4 {R : Type} : LoopTells Try.prog X158 M_R05_Add L_R05_Add 0 (L_R05_Add 32) (bodyOf Try.prog 32 4) (gL (R := R) sp_R05_Add_32_4 rd_R05_Add_32_4 br) :=
  loopTold (callK_ev (loopsOK_list rids noneIn) 40) (lsokIn (loopsOK_list rids noneIn) 32 0 4) (by kernel_rfl) sp_R05_Add_32_4 rd_R05_Add_32_4 rfl (by kernel_rfl) (by
    intro us v h; unfold rd_R05_Add_32_4 at h; split at h
    · rename_i v0 v1 v2 v3 v4 v5; exact rq_R05_Add_32_4 v0 v1 v2 v3 v4 v5
    · cases h)
noncomputable abbrev ll_R05_Add_32_4 {R : Type} : List (Nat × Nat × Nat × Smy R) := (32, 0, 4, gL sp_R05_Add_32_4 rd_R05_Add_32_4 br) :: []
theorem lk_R05_Add_32_4 {R : Type} : ∀ e ∈ ll_R05_Add_32_4 (R := R), LoopTells Try.prog X158 M_R05_Add L_R05_Add e.2.1 (L_R05_Add e.1) (bodyOf Try.prog e.1 e.2.2.1) e.2.2.2 := List.forall_mem_cons.2 ⟨lo_R05_Add_32_4, noneIn⟩
def S_R05_Add : FSp := ⟨[.one (.l 46), .one (.l 48), .one (.i .i64)], [], [], [([.one (.all 0)], [.arr 46 true])]⟩
noncomputable def m_R05_Add : List U → Rt
  | [.l v0, .l v1, .i v2] =>
    (let r0 : Rs := (lres rd_R05_Add_32_4 [U.l v0, U.l v1, U.i v2, U.b false, U.i (0 : Int), U.l []])
    (.test (ok r0 0)
    (.test (!uB (out r0 0) 2)
    (.test (uI (out r0 0) 1 != (0 : Int))
    (.test (decide ((List.length (uL (out r0 0) 3) + 1) * 32 ≤ 140737488355328))
    (.stop 0 [.l (uL (out r0 0) 3 ++ [[PV.lst 48 (uL (out r0 0) 0), pI (uI (out r0 0) 1)]])])
    .fail)
    (.stop 0 [.l (uL (out r0 0) 3)]))
    (.stop 0 [.l (uL (out r0 0) 3)]))
    .fail))
  | _ => .fail
set_option maxRecDepth 100000 in
theorem q_R05_Add (v0 : List (List PV)) (v1 : List (List PV)) (v2 : Int) : callK br Try.prog X158 M_R05_Add L_R05_Add (lsT ll_R05_Add_32_4) 60 32 (encs [.l v0, .l v1, .i v2] 0 S_R05_Add.ap) (encH [.l v0, .l v1, .i v2] (ws S_R05_Add.ap) S_R05_Add.ah) (fun y => fixR Try.prog S_R05_Add.plan S_R05_Add.ah.length y) =
    (m_R05_Add [.l v0, .l v1, .i v2]).go br (fun _ => none) S_R05_Add.fin := by
  rw [← callF_eq]; kernel_rfl
theorem e_R05_Add : EOK Try.prog 32 (gF S_R05_Add m_R05_Add) :=
  eokTold mixed named x158 (loopsOK_list rids lk_R05_Add_32_4) 60 S_R05_Add m_R05_Add (by
    intro us v h; unfold m_R05_Add at h; split at h
    · rename_i v0 v1 v2; exact q_R05_Add v0 v1 v2
    · cases h) false
noncomputable abbrev X159 : Ext := extT [(32, (gF S_R05_Add m_R05_Add))] X158
theorem x159 : XOK Try.prog X159 := xok1 x158 e_R05_Add

def L_R05_Both : FuncId → Nat → Option (List Nat) := liveT [(13, 2, [94000000, 1, 5]), (13, 1000002, [0]), (13, 2000002, [4])]
def M_R05_Both : FuncId → Bool := fun _ => false
noncomputable def rd_R05_Both_13_2 : List U → Rt
  | [.l v0, .l v1, .i v2] =>
    (.test (decide (v2 < ln v1))
    (.test (inR v2 (ln v1))
    (.test (inR v2 (ln v1))
    (let r0 : Rs := (Rt.res (m_R05_Add [U.l v0, U.l (cL (el v1 v2) 0), U.i (cI (el v1 v2) 1)]))
    (.test (ok r0 0)
    (.next [.l (uL (out r0 0) 0), .l v1, .i (w64 (v2 + (1 : Int)))])
    .fail))
    .fail)
    .fail)
    (.stop 0 [.l v0]))
  | _ => .fail
def sp_R05_Both_13_2 : LSp := ⟨25, ⟨[(0, .one (.l 46)), (1, .one (.l 46)), (5, .one (.i .i64))], []⟩, [(.exit 0, ⟨[(0, .one (.l 46))], []⟩)]⟩
set_option maxRecDepth 100000 in
theorem rq_R05_Both_13_2 (v0 : List (List PV)) (v1 : List (List PV)) (v2 : Int) : runK br Try.prog (callK br Try.prog X159 M_R05_Both L_R05_Both (lsT []) 40) M_R05_Both (lsT [] 13 0) 40 0 (L_R05_Both 13) (bodyOf Try.prog 13 2) (sp_R05_Both_13_2.s.ts sp_R05_Both_13_2.n [.l v0, .l v1, .i v2]) (sp_R05_Both_13_2.s.h [.l v0, .l v1, .i v2]) (idc Try.prog 0 (L_R05_Both 13) 2) =
    (rd_R05_Both_13_2 [.l v0, .l v1, .i v2]).go br (fun us' => some (.normal, sp_R05_Both_13_2.s.ts sp_R05_Both_13_2.n us', sp_R05_Both_13_2.s.h us')) sp_R05_Both_13_2.fin := by
  rw [← callF_eq, ← runF_eq]; kernel_rfl
theorem lo_R05_Both_13_2 {R : Type} : LoopTells Try.prog X159 M_R05_Both L_R05_Both 0 (L_R05_Both 13) (bodyOf Try.prog 13 2) (gL (R := R) sp_R05_Both_13_2 rd_R05_Both_13_2 br) :=
  loopTold (callK_ev (loopsOK_list rids noneIn) 40) (lsokIn (loopsOK_list rids noneIn) 13 0 2) (by kernel_rfl) sp_R05_Both_13_2 rd_R05_Both_13_2 rfl (by kernel_rfl) (by
    intro us v h; unfold rd_R05_Both_13_2 at h; split at h
    · rename_i v0 v1 v2; exact rq_R05_Both_13_2 v0 v1 v2
    · cases h)
noncomputable abbrev ll_R05_Both_13_2 {R : Type} : List (Nat × Nat × Nat × Smy R) := (13, 0, 2, gL sp_R05_Both_13_2 rd_R05_Both_13_2 br) :: []
theorem lk_R05_Both_13_2 {R : Type} : ∀ e ∈ ll_R05_Both_13_2 (R := R), LoopTells Try.prog X159 M_R05_Both L_R05_Both e.2.1 (L_R05_Both e.1) (bodyOf Try.prog e.1 e.2.2.1) e.2.2.2 := List.forall_mem_cons.2 ⟨lo_R05_Both_13_2, noneIn⟩
def S_R05_Both : FSp := ⟨[.one (.l 46), .one (.l 46)], [], [], [([.one (.l 46)], [])]⟩
noncomputable def m_R05_Both : List U → Rt
  | [.l v0, .l v1] =>
    (let r0 : Rs := (lres rd_R05_Both_13_2 [U.l v0, U.l v1, U.i (0 : Int)])
    (.test (ok r0 0)
    (.stop 0 [.l (uL (out r0 0) 0)])
    .fail))
  | _ => .fail
set_option maxRecDepth 100000 in
theorem q_R05_Both (v0 : List (List PV)) (v1 : List (List PV)) : callK br Try.prog X159 M_R05_Both L_R05_Both (lsT ll_R05_Both_13_2) 60 13 (encs [.l v0, .l v1] 0 S_R05_Both.ap) (encH [.l v0, .l v1] (ws S_R05_Both.ap) S_R05_Both.ah) (fun y => fixR Try.prog S_R05_Both.plan S_R05_Both.ah.length y) =
    (m_R05_Both [.l v0, .l v1]).go br (fun _ => none) S_R05_Both.fin := by
  rw [← callF_eq]; kernel_rfl
theorem e_R05_Both : EOK Try.prog 13 (gF S_R05_Both m_R05_Both) :=
  eokTold mixed named x159 (loopsOK_list rids lk_R05_Both_13_2) 60 S_R05_Both m_R05_Both (by
    intro us v h; unfold m_R05_Both at h; split at h
    · rename_i v0 v1; exact q_R05_Both v0 v1
    · cases h) false
noncomputable abbrev X160 : Ext := extT [(13, (gF S_R05_Both m_R05_Both))] X159
theorem x160 : XOK Try.prog X160 := xok1 x159 e_R05_Both

def L_R05_Get : FuncId → Nat → Option (List Nat) := liveT [(19, 2, [0, 1, 5]), (19, 1000002, []), (19, 2000002, [4])]
def M_R05_Get : FuncId → Bool := fun _ => false
noncomputable def rd_R05_Get_19_2 : List U → Rt
  | [.l v0, .l v1, .i v2] =>
    (.test (decide (v2 < ln v0))
    (let r0 : Rs := (Rt.res (m_R05_May [U.l v0]))
    (.test (ok r0 0)
    (.test (uB (out r0 0) 0)
    (.test (inR v2 (ln v0))
    (let r1 : Rs := (Rt.res (m_R02_Compare [U.l (cL (el v0 v2) 0), U.l v1]))
    (.test (ok r1 0)
    (.test (uI (out r1 0) 0 == (0 : Int))
    (.test (inR v2 (ln v0))
    (.stop 0 [.i (cI (el v0 v2) 1)])
    .fail)
    (.next [.l v0, .l v1, .i (w64 (v2 + (1 : Int)))]))
    .fail))
    .fail)
    (.stop 1 []))
    .fail))
    (.stop 1 []))
  | _ => .fail
def sp_R05_Get_19_2 : LSp := ⟨29, ⟨[(0, .one (.l 46)), (1, .one (.l 48)), (5, .one (.i .i64))], []⟩, [(.ret, ⟨[(4, .one (.i .i64))], []⟩), (.exit 0, ⟨[], []⟩)]⟩
set_option maxRecDepth 100000 in
theorem rq_R05_Get_19_2 (v0 : List (List PV)) (v1 : List (List PV)) (v2 : Int) : runK br Try.prog (callK br Try.prog X160 M_R05_Get L_R05_Get (lsT []) 40) M_R05_Get (lsT [] 19 0) 40 0 (L_R05_Get 19) (bodyOf Try.prog 19 2) (sp_R05_Get_19_2.s.ts sp_R05_Get_19_2.n [.l v0, .l v1, .i v2]) (sp_R05_Get_19_2.s.h [.l v0, .l v1, .i v2]) (idc Try.prog 0 (L_R05_Get 19) 2) =
    (rd_R05_Get_19_2 [.l v0, .l v1, .i v2]).go br (fun us' => some (.normal, sp_R05_Get_19_2.s.ts sp_R05_Get_19_2.n us', sp_R05_Get_19_2.s.h us')) sp_R05_Get_19_2.fin := by
  rw [← callF_eq, ← runF_eq]; kernel_rfl
theorem lo_R05_Get_19_2 {R : Type} : LoopTells Try.prog X160 M_R05_Get L_R05_Get 0 (L_R05_Get 19) (bodyOf Try.prog 19 2) (gL (R := R) sp_R05_Get_19_2 rd_R05_Get_19_2 br) :=
  loopTold (callK_ev (loopsOK_list rids noneIn) 40) (lsokIn (loopsOK_list rids noneIn) 19 0 2) (by kernel_rfl) sp_R05_Get_19_2 rd_R05_Get_19_2 rfl (by kernel_rfl) (by
    intro us v h; unfold rd_R05_Get_19_2 at h; split at h
    · rename_i v0 v1 v2; exact rq_R05_Get_19_2 v0 v1 v2
    · cases h)
noncomputable abbrev ll_R05_Get_19_2 {R : Type} : List (Nat × Nat × Nat × Smy R) := (19, 0, 2, gL sp_R05_Get_19_2 rd_R05_Get_19_2 br) :: []
theorem lk_R05_Get_19_2 {R : Type} : ∀ e ∈ ll_R05_Get_19_2 (R := R), LoopTells Try.prog X160 M_R05_Get L_R05_Get e.2.1 (L_R05_Get e.1) (bodyOf Try.prog e.1 e.2.2.1) e.2.2.2 := List.forall_mem_cons.2 ⟨lo_R05_Get_19_2, noneIn⟩
def S_R05_Get : FSp := ⟨[.one (.l 46), .one (.l 48)], [], [], [([.one (.i .i64)], [])]⟩
noncomputable def m_R05_Get : List U → Rt
  | [.l v0, .l v1] =>
    (let r0 : Rs := (lres rd_R05_Get_19_2 [U.l v0, U.l v1, U.i (0 : Int)])
    (.test (ok r0 0)
    (.stop 0 [.i (uI (out r0 0) 0)])
    (.test (ok r0 1)
    (.stop 0 [.i ((0 : Int))])
    .fail)))
  | _ => .fail
set_option maxRecDepth 100000 in
theorem q_R05_Get (v0 : List (List PV)) (v1 : List (List PV)) : callK br Try.prog X160 M_R05_Get L_R05_Get (lsT ll_R05_Get_19_2) 60 19 (encs [.l v0, .l v1] 0 S_R05_Get.ap) (encH [.l v0, .l v1] (ws S_R05_Get.ap) S_R05_Get.ah) (fun y => fixR Try.prog S_R05_Get.plan S_R05_Get.ah.length y) =
    (m_R05_Get [.l v0, .l v1]).go br (fun _ => none) S_R05_Get.fin := by
  rw [← callF_eq]; kernel_rfl
theorem e_R05_Get : EOK Try.prog 19 (gF S_R05_Get m_R05_Get) :=
  eokTold mixed named x160 (loopsOK_list rids lk_R05_Get_19_2) 60 S_R05_Get m_R05_Get (by
    intro us v h; unfold m_R05_Get at h; split at h
    · rename_i v0 v1; exact q_R05_Get v0 v1
    · cases h) false
noncomputable abbrev X161 : Ext := extT [(19, (gF S_R05_Get m_R05_Get))] X160
theorem x161 : XOK Try.prog X161 := xok1 x160 e_R05_Get

def L_R05_Neg : FuncId → Nat → Option (List Nat) := liveT [(25, 3, [0, 3, 4]), (25, 1000003, [3]), (25, 2000003, [2])]
def M_R05_Neg : FuncId → Bool := fun _ => false
noncomputable def rd_R05_Neg_25_3 : List U → Rt
  | [.l v0, .i v1, .l v2] =>
    (.test (decide (v1 < ln v0))
    (let r0 : Rs := (Rt.res (m_R05_May [U.l v0]))
    (.test (ok r0 0)
    (.test (uB (out r0 0) 0)
    (.test (inR v1 (ln v0))
    (.test (inR v1 (ln v0))
    (.test (decide ((List.length v2 + 1) * 32 ≤ 140737488355328))
    (.next [.l v0, .i (w64 (v1 + (1 : Int))), .l (v2 ++ [[PV.lst 48 (cL (el v0 v1) 0), pI (w64 ((0 : Int) - cI (el v0 v1) 1))]])])
    .fail)
    .fail)
    .fail)
    (.stop 0 [.l v2]))
    .fail))
    (.stop 0 [.l v2]))
  | _ => .fail
def sp_R05_Neg_25_3 : LSp := ⟨32, ⟨[(0, .one (.l 46)), (3, .one (.all 0)), (4, .one (.i .i64))], [.arr 46 true]⟩, [(.exit 0, ⟨[(3, .one (.all 0))], [.arr 46 true]⟩)]⟩
set_option maxRecDepth 100000 in
theorem rq_R05_Neg_25_3 (v0 : List (List PV)) (v1 : Int) (v2 : List (List PV)) : runK br Try.prog (callK br Try.prog X161 M_R05_Neg L_R05_Neg (lsT []) 40) M_R05_Neg (lsT [] 25 0) 40 0 (L_R05_Neg 25) (bodyOf Try.prog 25 3) (sp_R05_Neg_25_3.s.ts sp_R05_Neg_25_3.n [.l v0, .i v1, .l v2]) (sp_R05_Neg_25_3.s.h [.l v0, .i v1, .l v2]) (idc Try.prog 0 (L_R05_Neg 25) 3) =
    (rd_R05_Neg_25_3 [.l v0, .i v1, .l v2]).go br (fun us' => some (.normal, sp_R05_Neg_25_3.s.ts sp_R05_Neg_25_3.n us', sp_R05_Neg_25_3.s.h us')) sp_R05_Neg_25_3.fin := by
  rw [← callF_eq, ← runF_eq]; kernel_rfl
theorem lo_R05_Neg_25_3 {R : Type} : LoopTells Try.prog X161 M_R05_Neg L_R05_Neg 0 (L_R05_Neg 25) (bodyOf Try.prog 25 3) (gL (R := R) sp_R05_Neg_25_3 rd_R05_Neg_25_3 br) :=
  loopTold (callK_ev (loopsOK_list rids noneIn) 40) (lsokIn (loopsOK_list rids noneIn) 25 0 3) (by kernel_rfl) sp_R05_Neg_25_3 rd_R05_Neg_25_3 rfl (by kernel_rfl) (by
    intro us v h; unfold rd_R05_Neg_25_3 at h; split at h
    · rename_i v0 v1 v2; exact rq_R05_Neg_25_3 v0 v1 v2
    · cases h)
noncomputable abbrev ll_R05_Neg_25_3 {R : Type} : List (Nat × Nat × Nat × Smy R) := (25, 0, 3, gL sp_R05_Neg_25_3 rd_R05_Neg_25_3 br) :: []
theorem lk_R05_Neg_25_3 {R : Type} : ∀ e ∈ ll_R05_Neg_25_3 (R := R), LoopTells Try.prog X161 M_R05_Neg L_R05_Neg e.2.1 (L_R05_Neg e.1) (bodyOf Try.prog e.1 e.2.2.1) e.2.2.2 := List.forall_mem_cons.2 ⟨lo_R05_Neg_25_3, noneIn⟩
def S_R05_Neg : FSp := ⟨[.one (.l 46)], [], [], [([.one (.all 0)], [.arr 46 true])]⟩
noncomputable def m_R05_Neg : List U → Rt
  | [.l v0] =>
    (let r0 : Rs := (lres rd_R05_Neg_25_3 [U.l v0, U.i (0 : Int), U.l []])
    (.test (ok r0 0)
    (.stop 0 [.l (uL (out r0 0) 0)])
    .fail))
  | _ => .fail
set_option maxRecDepth 100000 in
theorem q_R05_Neg (v0 : List (List PV)) : callK br Try.prog X161 M_R05_Neg L_R05_Neg (lsT ll_R05_Neg_25_3) 60 25 (encs [.l v0] 0 S_R05_Neg.ap) (encH [.l v0] (ws S_R05_Neg.ap) S_R05_Neg.ah) (fun y => fixR Try.prog S_R05_Neg.plan S_R05_Neg.ah.length y) =
    (m_R05_Neg [.l v0]).go br (fun _ => none) S_R05_Neg.fin := by
  rw [← callF_eq]; kernel_rfl
theorem e_R05_Neg : EOK Try.prog 25 (gF S_R05_Neg m_R05_Neg) :=
  eokTold mixed named x161 (loopsOK_list rids lk_R05_Neg_25_3) 60 S_R05_Neg m_R05_Neg (by
    intro us v h; unfold m_R05_Neg at h; split at h
    · rename_i v0; exact q_R05_Neg v0
    · cases h) false
noncomputable abbrev X162 : Ext := extT [(25, (gF S_R05_Neg m_R05_Neg))] X161
theorem x162 : XOK Try.prog X162 := xok1 x161 e_R05_Neg

def L_L13_small : FuncId → Nat → Option (List Nat) := liveT []
def M_L13_small : FuncId → Bool := fun _ => false
def S_L13_small : FSp := ⟨[.agg [.s, .s, .s, .i .i64, .i .i64, .l 63, .l 3, .b, .l 165], .agg [.l 46, .l 46, .l 46, .l 46]], [], [], [([.one (.b)], [])]⟩
noncomputable def m_L13_small : List U → Rt
  | [.s v0, .s v1, .s v2, .i v3, .i v4, .l v5, .l v6, .b v7, .l v8, .l v9, .l v10, .l v11, .l v12] =>
    (let r0 : Rs := (Rt.res (m_R10_Low [U.l v9]))
    (.test (ok r0 0)
    (.test (uB (out r0 0) 0)
    (let r1 : Rs := (Rt.res (m_R10_Low [U.l v10]))
    (.test (ok r1 0)
    (.test (uB (out r1 0) 0)
    (let r2 : Rs := (Rt.res (m_R10_Low [U.l v11]))
    (.test (ok r2 0)
    (.test (uB (out r2 0) 0)
    (let r3 : Rs := (Rt.res (m_R10_Low [U.l v12]))
    (.test (ok r3 0)
    (.test (uB (out r3 0) 0)
    (.test (decide (ln v5 ≤ (120 : Int)))
    (.stop 0 [.b (decide (ln v6 ≤ (60 : Int)))])
    (.stop 0 [.b false]))
    (.stop 0 [.b false]))
    .fail))
    (.stop 0 [.b false]))
    .fail))
    (.stop 0 [.b false]))
    .fail))
    (.stop 0 [.b false]))
    .fail))
  | _ => .fail
set_option maxRecDepth 100000 in
theorem q_L13_small (v0 : ByteArray) (v1 : ByteArray) (v2 : ByteArray) (v3 : Int) (v4 : Int) (v5 : List (List PV)) (v6 : List (List PV)) (v7 : Bool) (v8 : List (List PV)) (v9 : List (List PV)) (v10 : List (List PV)) (v11 : List (List PV)) (v12 : List (List PV)) : callK br Try.prog X162 M_L13_small L_L13_small (lsT []) 60 22 (encs [.s v0, .s v1, .s v2, .i v3, .i v4, .l v5, .l v6, .b v7, .l v8, .l v9, .l v10, .l v11, .l v12] 0 S_L13_small.ap) (encH [.s v0, .s v1, .s v2, .i v3, .i v4, .l v5, .l v6, .b v7, .l v8, .l v9, .l v10, .l v11, .l v12] (ws S_L13_small.ap) S_L13_small.ah) (fun y => fixR Try.prog S_L13_small.plan S_L13_small.ah.length y) =
    (m_L13_small [.s v0, .s v1, .s v2, .i v3, .i v4, .l v5, .l v6, .b v7, .l v8, .l v9, .l v10, .l v11, .l v12]).go br (fun _ => none) S_L13_small.fin := by
  rw [← callF_eq]; kernel_rfl
theorem e_L13_small : EOK Try.prog 22 (gF S_L13_small m_L13_small) :=
  eokTold mixed named x162 (loopsOK_list rids noneIn) 60 S_L13_small m_L13_small (by
    intro us v h; unfold m_L13_small at h; split at h
    · rename_i v0 v1 v2 v3 v4 v5 v6 v7 v8 v9 v10 v11 v12; exact q_L13_small v0 v1 v2 v3 v4 v5 v6 v7 v8 v9 v10 v11 v12
    · cases h) false
noncomputable abbrev X163 : Ext := extT [(22, (gF S_L13_small m_L13_small))] X162
theorem x163 : XOK Try.prog X163 := xok1 x162 e_L13_small

def L_L13_may : FuncId → Nat → Option (List Nat) := liveT []
def M_L13_may : FuncId → Bool := fun _ => false
def S_L13_may : FSp := ⟨[.agg [.l 46, .l 46, .l 46, .l 46]], [], [], [([.one (.b)], [])]⟩
noncomputable def m_L13_may : List U → Rt
  | [.l v0, .l v1, .l v2, .l v3] =>
    (let r0 : Rs := (Rt.res (m_R05_May [U.l v0]))
    (.test (ok r0 0)
    (.test (uB (out r0 0) 0)
    (let r1 : Rs := (Rt.res (m_R05_May [U.l v1]))
    (.test (ok r1 0)
    (.test (uB (out r1 0) 0)
    (let r2 : Rs := (Rt.res (m_R05_May [U.l v2]))
    (.test (ok r2 0)
    (.test (uB (out r2 0) 0)
    (let r3 : Rs := (Rt.res (m_R05_May [U.l v3]))
    (.test (ok r3 0)
    (.stop 0 [.b (uB (out r3 0) 0)])
    .fail))
    (.stop 0 [.b false]))
    .fail))
    (.stop 0 [.b false]))
    .fail))
    (.stop 0 [.b false]))
    .fail))
  | _ => .fail
set_option maxRecDepth 100000 in
theorem q_L13_may (v0 : List (List PV)) (v1 : List (List PV)) (v2 : List (List PV)) (v3 : List (List PV)) : callK br Try.prog X163 M_L13_may L_L13_may (lsT []) 60 23 (encs [.l v0, .l v1, .l v2, .l v3] 0 S_L13_may.ap) (encH [.l v0, .l v1, .l v2, .l v3] (ws S_L13_may.ap) S_L13_may.ah) (fun y => fixR Try.prog S_L13_may.plan S_L13_may.ah.length y) =
    (m_L13_may [.l v0, .l v1, .l v2, .l v3]).go br (fun _ => none) S_L13_may.fin := by
  rw [← callF_eq]; kernel_rfl
theorem e_L13_may : EOK Try.prog 23 (gF S_L13_may m_L13_may) :=
  eokTold mixed named x163 (loopsOK_list rids noneIn) 60 S_L13_may m_L13_may (by
    intro us v h; unfold m_L13_may at h; split at h
    · rename_i v0 v1 v2 v3; exact q_L13_may v0 v1 v2 v3
    · cases h) false
noncomputable abbrev X164 : Ext := extT [(23, (gF S_L13_may m_L13_may))] X163
theorem x164 : XOK Try.prog X164 := xok1 x163 e_L13_may

end Go.Proofs.Ytikmahlogjcieaa







set_option linter.unusedVariables false
namespace Go.Proofs.Ytikmahlogjcieaa
open Go Go.Pu

end Go.Proofs.Ytikmahlogjcieaa

set_option linter.unusedVariables false
namespace Go.Proofs.Ytikmahlogjcieaa
open Go Go.Pu

end Go.Proofs.Ytikmahlogjcieaa

set_option linter.unusedVariables false
namespace Go.Proofs.Ytikmahlogjcieaa
open Go Go.Pu

end Go.Proofs.Ytikmahlogjcieaa

set_option linter.unusedVariables false
namespace Go.Proofs.Ytikmahlogjcieaa
open Go Go.Pu

end Go.Proofs.Ytikmahlogjcieaa

set_option linter.unusedVariables false
namespace Go.Proofs.Ytikmahlogjcieaa
open Go Go.Pu

end Go.Proofs.Ytikmahlogjcieaa

set_option linter.unusedVariables false
namespace Go.Proofs.Ytikmahlogjcieaa
open Go Go.Pu

end Go.Proofs.Ytikmahlogjcieaa
