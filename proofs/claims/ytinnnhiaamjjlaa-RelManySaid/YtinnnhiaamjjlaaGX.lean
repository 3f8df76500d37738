/- Texts of this seat, one behind the other. -/
import Derived.Test.YtinnnhiaamjjlaaKX
import Derived.Test.YtinnnhiaamjjlaaTE
set_option linter.unusedVariables false
namespace Go.Proofs.Ytinnnhiaamjjlaa
open Go Go.Pu

/-- levee/leveeref02.Short -/
def L_R02_Short : FuncId → Nat → Option (List Nat) := liveT [(9, 2, [0, 3]), (9, 1000002, [0]), (9, 2000002, [2])]
def M_R02_Short : FuncId → Bool := fun _ => false
noncomputable def rd_R02_Short_9_2 : List U → Rt
  | [.l v0, .i v1] =>
    (.test (decide (v1 < ln v0))
    (.test (inR v1 (ln v0))
    (.test (decide ((↑(ByteArray.size (cS (el v0 v1) 2)) : Int) > (1000 : Int)))
    (.stop 0 [.b false])
    (.next [.l v0, .i (w64 (v1 + (1 : Int)))]))
    .fail)
    (.stop 1 [.l v0]))
  | _ => .fail
def sp_R02_Short_9_2 : LSp := ⟨20, ⟨[(0, .one (.l 28)), (3, .one (.i .i64))], []⟩, [(.ret, ⟨[(2, .one (.b))], []⟩), (.exit 0, ⟨[(0, .one (.l 28))], []⟩)]⟩
set_option maxRecDepth 100000 in
theorem rq_R02_Short_9_2 (v0 : List (List PV)) (v1 : Int) : runK br Try.prog (callK br Try.prog XJ M_R02_Short L_R02_Short (lsT []) 40) M_R02_Short (lsT [] 9 0) 40 0 (L_R02_Short 9) (bodyOf Try.prog 9 2) (sp_R02_Short_9_2.s.ts sp_R02_Short_9_2.n [.l v0, .i v1]) (sp_R02_Short_9_2.s.h [.l v0, .i v1]) (idc Try.prog 0 (L_R02_Short 9) 2) =
    (rd_R02_Short_9_2 [.l v0, .i v1]).go br (fun us' => some (.normal, sp_R02_Short_9_2.s.ts sp_R02_Short_9_2.n us', sp_R02_Short_9_2.s.h us')) sp_R02_Short_9_2.fin := by
  rw [← callF_eq, ← runF_eq]; kernel_rfl
theorem lo_R02_Short_9_2 {R : Type} : LoopTells Try.prog XJ M_R02_Short L_R02_Short 0 (L_R02_Short 9) (bodyOf Try.prog 9 2) (gL (R := R) sp_R02_Short_9_2 rd_R02_Short_9_2 br) :=
  loopTold (callK_ev (loopsOK_list rids noneIn) 40) (lsokIn (loopsOK_list rids noneIn) 9 0 2) (by kernel_rfl) sp_R02_Short_9_2 rd_R02_Short_9_2 rfl (by kernel_rfl) (by
    intro us v h; unfold rd_R02_Short_9_2 at h; split at h
    · rename_i v0 v1; exact rq_R02_Short_9_2 v0 v1
    · cases h)
noncomputable abbrev ll_R02_Short_9_2 {R : Type} : List (Nat × Nat × Nat × Smy R) := (9, 0, 2, gL sp_R02_Short_9_2 rd_R02_Short_9_2 br) :: []
theorem lk_R02_Short_9_2 {R : Type} : ∀ e ∈ ll_R02_Short_9_2 (R := R), LoopTells Try.prog XJ M_R02_Short L_R02_Short e.2.1 (L_R02_Short e.1) (bodyOf Try.prog e.1 e.2.2.1) e.2.2.2 := List.forall_mem_cons.2 ⟨lo_R02_Short_9_2, noneIn⟩
def S_R02_Short : FSp := ⟨[.one (.l 28)], [], [], [([.one (.b)], [])]⟩
noncomputable def m_R02_Short : List U → Rt
  | [.l v0] =>
    (let r0 : Rs := (lres rd_R02_Short_9_2 [U.l v0, U.i (0 : Int)])
    (.test (ok r0 0)
    (.stop 0 [.b (uB (out r0 0) 0)])
    (.test (ok r0 1)
    (.stop 0 [.b (decide (ln (uL (out r0 1) 0) ≤ (40 : Int)))])
    .fail)))
  | _ => .fail
set_option maxRecDepth 100000 in
theorem q_R02_Short (v0 : List (List PV)) : callK br Try.prog XJ M_R02_Short L_R02_Short (lsT ll_R02_Short_9_2) 60 9 (encs [.l v0] 0 S_R02_Short.ap) (encH [.l v0] (ws S_R02_Short.ap) S_R02_Short.ah) (fun y => fixR Try.prog S_R02_Short.plan S_R02_Short.ah.length y) =
    (m_R02_Short [.l v0]).go br (fun _ => none) S_R02_Short.fin := by
  rw [← callF_eq]; kernel_rfl
theorem e_R02_Short : EOK Try.prog 9 (gF S_R02_Short m_R02_Short) :=
  eokTold mixed named xJ (loopsOK_list rids lk_R02_Short_9_2) 60 S_R02_Short m_R02_Short (by
    intro us v h; unfold m_R02_Short at h; split at h
    · rename_i v0; exact q_R02_Short v0
    · cases h) false
noncomputable abbrev X101 : Ext := extT [(9, (gF S_R02_Short m_R02_Short))] XJ
theorem x101 : XOK Try.prog X101 := xok1 xJ e_R02_Short

/-- levee/leveeref16.Small -/
def L_R16_Small : FuncId → Nat → Option (List Nat) := liveT [(8, 2, [1, 3]), (8, 1000002, [1]), (8, 2000002, [2])]
def M_R16_Small : FuncId → Bool := fun _ => false
noncomputable def rd_R16_Small_8_2 : List U → Rt
  | [.i v0, .s v1, .l v2] =>
    (.test (decide (v0 < ln v2))
    (.test (inR v0 (ln v2))
    (let r0 : Rs := (Rt.res (m_R02_Short [U.l (cL (el v2 v0) 0)]))
    (.test (ok r0 0)
    (.test (!uB (out r0 0) 0)
    (.stop 0 [.b false])
    (.next [.i (w64 (v0 + (1 : Int))), .s v1, .l v2]))
    .fail))
    .fail)
    (.stop 1 [.s v1, .l v2]))
  | _ => .fail
def sp_R16_Small_8_2 : LSp := ⟨29, ⟨[(1, .one (.ptr 0 0)), (3, .one (.i .i64))], [.box 24 [.one (.s), .one (.l 35)]]⟩, [(.ret, ⟨[(2, .one (.b))], []⟩), (.exit 0, ⟨[(1, .one (.ptr 0 0))], [.box 24 [.one (.s), .one (.l 35)]]⟩)]⟩
set_option maxRecDepth 100000 in
theorem rq_R16_Small_8_2 (v0 : Int) (v1 : ByteArray) (v2 : List (List PV)) : runK br Try.prog (callK br Try.prog X101 M_R16_Small L_R16_Small (lsT []) 40) M_R16_Small (lsT [] 8 0) 40 0 (L_R16_Small 8) (bodyOf Try.prog 8 2) (sp_R16_Small_8_2.s.ts sp_R16_Small_8_2.n [.i v0, .s v1, .l v2]) (sp_R16_Small_8_2.s.h [.i v0, .s v1, .l v2]) (idc Try.prog 0 (L_R16_Small 8) 2) =
    (rd_R16_Small_8_2 [.i v0, .s v1, .l v2]).go br (fun us' => some (.normal, sp_R16_Small_8_2.s.ts sp_R16_Small_8_2.n us', sp_R16_Small_8_2.s.h us')) sp_R16_Small_8_2.fin := by
  rw [← callF_eq, ← runF_eq]; kernel_rfl
theorem lo_R16_Small_8_2 {R : Type} : LoopTells Try.prog X101 M_R16_Small L_R16_Small 0 (L_R16_Small 8) (bodyOf Try.prog 8 2) (gL (R := R) sp_R16_Small_8_2 rd_R16_Small_8_2 br) :=
  loopTold (callK_ev (loopsOK_list rids noneIn) 40) (lsokIn (loopsOK_list rids noneIn) 8 0 2) (by kernel_rfl) sp_R16_Small_8_2 rd_R16_Small_8_2 rfl (by kernel_rfl) (by
    intro us v h; unfold rd_R16_Small_8_2 at h; split at h
    · rename_i v0 v1 v2; exact rq_R16_Small_8_2 v0 v1 v2
    · cases h)
noncomputable abbrev ll_R16_Small_8_2 {R : Type} : List (Nat × Nat × Nat × Smy R) := (8, 0, 2, gL sp_R16_Small_8_2 rd_R16_Small_8_2 br) :: []
theorem lk_R16_Small_8_2 {R : Type} : ∀ e ∈ ll_R16_Small_8_2 (R := R), LoopTells Try.prog X101 M_R16_Small L_R16_Small e.2.1 (L_R16_Small e.1) (bodyOf Try.prog e.1 e.2.2.1) e.2.2.2 := List.forall_mem_cons.2 ⟨lo_R16_Small_8_2, noneIn⟩
def S_R16_Small : FSp := ⟨[.agg [.s, .l 35]], [], [], [([.one (.b)], [])]⟩
noncomputable def m_R16_Small : List U → Rt
  | [.s v0, .l v1] =>
    (let r0 : Rs := (lres rd_R16_Small_8_2 [U.i (0 : Int), U.s v0, U.l v1])
    (.test (ok r0 0)
    (.stop 0 [.b (uB (out r0 0) 0)])
    (.test (ok r0 1)
    (.test (decide (ln (uL (out r0 1) 1) ≤ (60 : Int)))
    (.stop 0 [.b (decide ((↑(ByteArray.size (uS (out r0 1) 0)) : Int) ≤ (100 : Int)))])
    (.stop 0 [.b false]))
    .fail)))
  | _ => .fail
set_option maxRecDepth 100000 in
theorem q_R16_Small (v0 : ByteArray) (v1 : List (List PV)) : callK br Try.prog X101 M_R16_Small L_R16_Small (lsT ll_R16_Small_8_2) 60 8 (encs [.s v0, .l v1] 0 S_R16_Small.ap) (encH [.s v0, .l v1] (ws S_R16_Small.ap) S_R16_Small.ah) (fun y => fixR Try.prog S_R16_Small.plan S_R16_Small.ah.length y) =
    (m_R16_Small [.s v0, .l v1]).go br (fun _ => none) S_R16_Small.fin := by
  rw [← callF_eq]; kernel_rfl
theorem e_R16_Small : EOK Try.prog 8 (gF S_R16_Small m_R16_Small) :=
  eokTold mixed named x101 (loopsOK_list rids lk_R16_Small_8_2) 60 S_R16_Small m_R16_Small (by
    intro us v h; unfold m_R16_Small at h; split at h
    · rename_i v0 v1; exact q_R16_Small v0 v1
    · cases h) false
noncomputable abbrev X102 : Ext := extT [(8, (gF S_R16_Small m_R16_Small))] X101
theorem x102 : XOK Try.prog X102 := xok1 x101 e_R16_Small

/-- levee/leveeref01.Int -/
def L_R01_Int : FuncId → Nat → Option (List Nat) := liveT []
def M_R01_Int : FuncId → Bool := fun _ => false
def S_R01_Int : FSp := ⟨[.one (.i .i64)], [], [], [([.agg [.i .i64, .i .i64, .s]], [])]⟩
noncomputable def m_R01_Int : List U → Rt
  | [.i v0] =>
    (.stop 0 [.i ((2 : Int)), .i v0, .s ({ data := #[] })])
  | _ => .fail
set_option maxRecDepth 100000 in
theorem q_R01_Int (v0 : Int) : callK br Try.prog X102 M_R01_Int L_R01_Int (lsT []) 60 29 (encs [.i v0] 0 S_R01_Int.ap) (encH [.i v0] (ws S_R01_Int.ap) S_R01_Int.ah) (fun y => fixR Try.prog S_R01_Int.plan S_R01_Int.ah.length y) =
    (m_R01_Int [.i v0]).go br (fun _ => none) S_R01_Int.fin := by
  rw [← callF_eq]; kernel_rfl
theorem e_R01_Int : EOK Try.prog 29 (gI S_R01_Int m_R01_Int) :=
  eokTold mixed named x102 (loopsOK_list rids noneIn) 60 S_R01_Int m_R01_Int (by
    intro us v h; unfold m_R01_Int at h; split at h
    · rename_i v0; exact q_R01_Int v0
    · cases h) true
noncomputable abbrev X103 : Ext := extT [(29, (gI S_R01_Int m_R01_Int))] X102
theorem x103 : XOK Try.prog X103 := xok1 x102 e_R01_Int

/-- levee/rel.copied -/
def L_rel_copied : FuncId → Nat → Option (List Nat) := liveT []
def M_rel_copied : FuncId → Bool := fun _ => false
def S_rel_copied : FSp := ⟨[.agg [.l 28, .i .i64]], [], [], [([.agg [.all 0, .i .i64]], [.arr 28 true])]⟩
noncomputable def m_rel_copied : List U → Rt
  | [.l v0, .i v1] =>
    (.test (decide ((0 + List.length v0) * 32 ≤ 140737488355328))
    (.stop 0 [.i v1, .l v0])
    .fail)
  | _ => .fail
set_option maxRecDepth 100000 in
theorem q_rel_copied (v0 : List (List PV)) (v1 : Int) : callK br Try.prog X103 M_rel_copied L_rel_copied (lsT []) 60 32 (encs [.l v0, .i v1] 0 S_rel_copied.ap) (encH [.l v0, .i v1] (ws S_rel_copied.ap) S_rel_copied.ah) (fun y => fixR Try.prog S_rel_copied.plan S_rel_copied.ah.length y) =
    (m_rel_copied [.l v0, .i v1]).go br (fun _ => none) S_rel_copied.fin := by
  rw [← callF_eq]; kernel_rfl
theorem e_rel_copied : EOK Try.prog 32 (gI S_rel_copied m_rel_copied) :=
  eokTold mixed named x103 (loopsOK_list rids noneIn) 60 S_rel_copied m_rel_copied (by
    intro us v h; unfold m_rel_copied at h; split at h
    · rename_i v0 v1; exact q_rel_copied v0 v1
    · cases h) true
noncomputable abbrev X104 : Ext := extT [(32, (gI S_rel_copied m_rel_copied))] X103
theorem x104 : XOK Try.prog X104 := xok1 x103 e_rel_copied

/-- levee/value.May -/
def L_value_May : FuncId → Nat → Option (List Nat) := liveT []
def M_value_May : FuncId → Bool := fun _ => false
def S_value_May : FSp := ⟨[.agg [.i .i64, .i .i64, .s]], [], [], [([.one (.b)], [])]⟩
noncomputable def m_value_May : List U → Rt
  | [.i v0, .i v1, .s v2] =>
    (.test (v0 == (0 : Int))
    (.stop 0 [.b (v0 == (0 : Int) && (v1 == (0 : Int) && (ByteArray.toList v2 == [] && true)))])
    (.test (v0 == (1 : Int))
    (.test (v1 == (0 : Int))
    (.stop 0 [.b (ByteArray.toList v2 == [])])
    (.test (v1 == (1 : Int))
    (.stop 0 [.b (ByteArray.toList v2 == [])])
    (.stop 0 [.b false])))
    (.test (v0 == (2 : Int))
    (.stop 0 [.b (ByteArray.toList v2 == [])])
    (.test (v0 == (3 : Int))
    (.test (v1 == (0 : Int))
    (.stop 0 [.b (decide ((↑(ByteArray.size v2) : Int) ≤ (1000 : Int)))])
    (.stop 0 [.b false]))
    (.stop 0 [.b false])))))
  | _ => .fail
set_option maxRecDepth 100000 in
theorem q_value_May (v0 : Int) (v1 : Int) (v2 : ByteArray) : callK br Try.prog X104 M_value_May L_value_May (lsT []) 60 60 (encs [.i v0, .i v1, .s v2] 0 S_value_May.ap) (encH [.i v0, .i v1, .s v2] (ws S_value_May.ap) S_value_May.ah) (fun y => fixR Try.prog S_value_May.plan S_value_May.ah.length y) =
    (m_value_May [.i v0, .i v1, .s v2]).go br (fun _ => none) S_value_May.fin := by
  rw [← callF_eq]; kernel_rfl
theorem e_value_May : EOK Try.prog 60 (gF S_value_May m_value_May) :=
  eokTold mixed named x104 (loopsOK_list rids noneIn) 60 S_value_May m_value_May (by
    intro us v h; unfold m_value_May at h; split at h
    · rename_i v0 v1 v2; exact q_value_May v0 v1 v2
    · cases h) false
noncomputable abbrev X105 : Ext := extT [(60, (gF S_value_May m_value_May))] X104
theorem x105 : XOK Try.prog X105 := xok1 x104 e_value_May

/-- levee/row.May -/
def L_row_May : FuncId → Nat → Option (List Nat) := liveT [(69, 2, [0, 1, 7, 8]), (69, 1000002, []), (69, 2000002, [4])]
def M_row_May : FuncId → Bool := fun _ => false
noncomputable def rd_row_May_69_2 : List U → Rt
  | [.l v0, .i v1, .i v2] =>
    (.test (decide (v2 < v1))
    (.test (inR v2 (ln v0))
    (let r0 : Rs := (Rt.res (m_value_May [U.i (cI (el v0 v2) 0), U.i (cI (el v0 v2) 1), U.s (cS (el v0 v2) 2)]))
    (.test (ok r0 0)
    (.test (!uB (out r0 0) 0)
    (.stop 0 [.i v2])
    (.next [.l v0, .i v1, .i (w64 (v2 + (1 : Int)))]))
    .fail))
    .fail)
    (.stop 1 []))
  | _ => .fail
def sp_row_May_69_2 : LSp := ⟨19, ⟨[(0, .one (.l 28)), (1, .fn 59 []), (7, .one (.i .i64)), (8, .one (.i .i64))], []⟩, [(.ret, ⟨[(4, .one (.i .i64))], []⟩), (.exit 0, ⟨[], []⟩)]⟩
set_option maxRecDepth 100000 in
theorem rq_row_May_69_2 (v0 : List (List PV)) (v1 : Int) (v2 : Int) : runK br Try.prog (callK br Try.prog X105 M_row_May L_row_May (lsT []) 40) M_row_May (lsT [] 69 0) 40 0 (L_row_May 69) (bodyOf Try.prog 69 2) (sp_row_May_69_2.s.ts sp_row_May_69_2.n [.l v0, .i v1, .i v2]) (sp_row_May_69_2.s.h [.l v0, .i v1, .i v2]) (idc Try.prog 0 (L_row_May 69) 2) =
    (rd_row_May_69_2 [.l v0, .i v1, .i v2]).go br (fun us' => some (.normal, sp_row_May_69_2.s.ts sp_row_May_69_2.n us', sp_row_May_69_2.s.h us')) sp_row_May_69_2.fin := by
  rw [← callF_eq, ← runF_eq]; kernel_rfl
theorem lo_row_May_69_2 {R : Type} : LoopTells Try.prog X105 M_row_May L_row_May 0 (L_row_May 69) (bodyOf Try.prog 69 2) (gL (R := R) sp_row_May_69_2 rd_row_May_69_2 br) :=
  loopTold (callK_ev (loopsOK_list rids noneIn) 40) (lsokIn (loopsOK_list rids noneIn) 69 0 2) (by kernel_rfl) sp_row_May_69_2 rd_row_May_69_2 rfl (by kernel_rfl) (by
    intro us v h; unfold rd_row_May_69_2 at h; split at h
    · rename_i v0 v1 v2; exact rq_row_May_69_2 v0 v1 v2
    · cases h)
noncomputable abbrev ll_row_May_69_2 {R : Type} : List (Nat × Nat × Nat × Smy R) := (69, 0, 2, gL sp_row_May_69_2 rd_row_May_69_2 br) :: []
theorem lk_row_May_69_2 {R : Type} : ∀ e ∈ ll_row_May_69_2 (R := R), LoopTells Try.prog X105 M_row_May L_row_May e.2.1 (L_row_May e.1) (bodyOf Try.prog e.1 e.2.2.1) e.2.2.2 := List.forall_mem_cons.2 ⟨lo_row_May_69_2, noneIn⟩
def S_row_May : FSp := ⟨[.one (.l 28)], [], [], [([.one (.b)], [])]⟩
noncomputable def m_row_May : List U → Rt
  | [.l v0] =>
    (.test (decide (ln v0 ≤ (40 : Int)))
    (let r0 : Rs := (lres rd_row_May_69_2 [U.l v0, U.i (ln v0), U.i (0 : Int)])
    (.test (ok r0 0)
    (.stop 0 [.b (!decide (uI (out r0 0) 0 ≥ (0 : Int)))])
    (.test (ok r0 1)
    (.stop 0 [.b true])
    .fail)))
    (.stop 0 [.b false]))
  | _ => .fail
set_option maxRecDepth 100000 in
theorem q_row_May (v0 : List (List PV)) : callK br Try.prog X105 M_row_May L_row_May (lsT ll_row_May_69_2) 60 47 (encs [.l v0] 0 S_row_May.ap) (encH [.l v0] (ws S_row_May.ap) S_row_May.ah) (fun y => fixR Try.prog S_row_May.plan S_row_May.ah.length y) =
    (m_row_May [.l v0]).go br (fun _ => none) S_row_May.fin := by
  rw [← callF_eq]; kernel_rfl
theorem e_row_May : EOK Try.prog 47 (gF S_row_May m_row_May) :=
  eokTold mixed named x105 (loopsOK_list rids lk_row_May_69_2) 60 S_row_May m_row_May (by
    intro us v h; unfold m_row_May at h; split at h
    · rename_i v0; exact q_row_May v0
    · cases h) false
noncomputable abbrev X106 : Ext := extT [(47, (gF S_row_May m_row_May))] X105
theorem x106 : XOK Try.prog X106 := xok1 x105 e_row_May

/-- levee/rel.right -/
def L_rel_right : FuncId → Nat → Option (List Nat) := liveT []
def M_rel_right : FuncId → Bool := fun _ => false
def S_rel_right : FSp := ⟨[.agg [.l 28, .i .i64]], [], [], [([.one (.b)], [])]⟩
noncomputable def m_rel_right : List U → Rt
  | [.l v0, .i v1] =>
    (let r0 : Rs := (Rt.res (m_row_May [U.l v0]))
    (.test (ok r0 0)
    (.test (uB (out r0 0) 0)
    (.test (decide (ln v0 > (0 : Int)))
    (.test (inR (0 : Int) (ln v0))
    (.test (cI (List.getD v0 0 []) 0 != (0 : Int))
    (.stop 0 [.b (decide (v1 ≥ (0 : Int)))])
    (.stop 0 [.b false]))
    .fail)
    (.stop 0 [.b false]))
    (.stop 0 [.b false]))
    .fail))
  | _ => .fail
set_option maxRecDepth 100000 in
theorem q_rel_right (v0 : List (List PV)) (v1 : Int) : callK br Try.prog X106 M_rel_right L_rel_right (lsT []) 60 35 (encs [.l v0, .i v1] 0 S_rel_right.ap) (encH [.l v0, .i v1] (ws S_rel_right.ap) S_rel_right.ah) (fun y => fixR Try.prog S_rel_right.plan S_rel_right.ah.length y) =
    (m_rel_right [.l v0, .i v1]).go br (fun _ => none) S_rel_right.fin := by
  rw [← callF_eq]; kernel_rfl
theorem e_rel_right : EOK Try.prog 35 (gF S_rel_right m_rel_right) :=
  eokTold mixed named x106 (loopsOK_list rids noneIn) 60 S_rel_right m_rel_right (by
    intro us v h; unfold m_rel_right at h; split at h
    · rename_i v0 v1; exact q_rel_right v0 v1
    · cases h) false
noncomputable abbrev X107 : Ext := extT [(35, (gF S_rel_right m_rel_right))] X106
theorem x107 : XOK Try.prog X107 := xok1 x106 e_rel_right

/-- levee/rel.May -/
def L_rel_May : FuncId → Nat → Option (List Nat) := liveT [(15, 2, [1, 6, 7, 8]), (15, 1000002, []), (15, 2000002, [2])]
def M_rel_May : FuncId → Bool := fun _ => false
noncomputable def rd_rel_May_15_2 : List U → Rt
  | [.l v0, .i v1, .i v2, .s v3, .l v4] =>
    (.test (decide (v2 < v1))
    (.test (inR v2 (ln v0))
    (let r0 : Rs := (Rt.res (m_rel_right [U.l (cL (el v0 v2) 0), U.i (cI (el v0 v2) 1)]))
    (.test (ok r0 0)
    (.test (!uB (out r0 0) 0)
    (.stop 0 [.b false])
    (.test (decide (v2 > (0 : Int)))
    (.test (inR (w64 (v2 - (1 : Int))) (ln v4))
    (.test (inR (0 : Int) (ln (cL (el v4 (w64 (v2 - (1 : Int)))) 0)))
    (.test (inR (0 : Int) (ln (cL (el v0 v2) 0)))
    (let r1 : Rs := (Rt.res (m_value_Compare [U.i (cI (List.getD (cL (el v4 (w64 (v2 - (1 : Int)))) 0) 0 []) 0), U.i (cI (List.getD (cL (el v4 (w64 (v2 - (1 : Int)))) 0) 0 []) 1), U.s (cS (List.getD (cL (el v4 (w64 (v2 - (1 : Int)))) 0) 0 []) 2), U.i (cI (List.getD (cL (el v0 v2) 0) 0 []) 0), U.i (cI (List.getD (cL (el v0 v2) 0) 0 []) 1), U.s (cS (List.getD (cL (el v0 v2) 0) 0 []) 2)]))
    (.test (ok r1 0)
    (.test (decide (uI (out r1 0) 0 ≥ (0 : Int)))
    (.stop 0 [.b false])
    (.next [.l v0, .i v1, .i (w64 (v2 + (1 : Int))), .s v3, .l v4]))
    .fail))
    .fail)
    .fail)
    .fail)
    (.next [.l v0, .i v1, .i (w64 (v2 + (1 : Int))), .s v3, .l v4])))
    .fail))
    .fail)
    (.stop 1 []))
  | _ => .fail
def sp_rel_May_15_2 : LSp := ⟨38, ⟨[(1, .one (.ptr 0 0)), (6, .one (.l 35)), (7, .one (.i .i64)), (8, .one (.i .i64))], [.box 24 [.one (.s), .one (.l 35)]]⟩, [(.ret, ⟨[(2, .one (.b))], []⟩), (.exit 0, ⟨[], []⟩)]⟩
set_option maxRecDepth 100000 in
theorem rq_rel_May_15_2 (v0 : List (List PV)) (v1 : Int) (v2 : Int) (v3 : ByteArray) (v4 : List (List PV)) : runK br Try.prog (callK br Try.prog X107 M_rel_May L_rel_May (lsT []) 40) M_rel_May (lsT [] 15 0) 40 0 (L_rel_May 15) (bodyOf Try.prog 15 2) (sp_rel_May_15_2.s.ts sp_rel_May_15_2.n [.l v0, .i v1, .i v2, .s v3, .l v4]) (sp_rel_May_15_2.s.h [.l v0, .i v1, .i v2, .s v3, .l v4]) (idc Try.prog 0 (L_rel_May 15) 2) =
    (rd_rel_May_15_2 [.l v0, .i v1, .i v2, .s v3, .l v4]).go br (fun us' => some (.normal, sp_rel_May_15_2.s.ts sp_rel_May_15_2.n us', sp_rel_May_15_2.s.h us')) sp_rel_May_15_2.fin := by
  rw [← callF_eq, ← runF_eq]; kernel_rfl
theorem lo_rel_May_15_2 {R : Type} : LoopTells Try.prog X107 M_rel_May L_rel_May 0 (L_rel_May 15) (bodyOf Try.prog 15 2) (gL (R := R) sp_rel_May_15_2 rd_rel_May_15_2 br) :=
  loopTold (callK_ev (loopsOK_list rids noneIn) 40) (lsokIn (loopsOK_list rids noneIn) 15 0 2) (by kernel_rfl) sp_rel_May_15_2 rd_rel_May_15_2 rfl (by kernel_rfl) (by
    intro us v h; unfold rd_rel_May_15_2 at h; split at h
    · rename_i v0 v1 v2 v3 v4; exact rq_rel_May_15_2 v0 v1 v2 v3 v4
    · cases h)
noncomputable abbrev ll_rel_May_15_2 {R : Type} : List (Nat × Nat × Nat × Smy R) := (15, 0, 2, gL sp_rel_May_15_2 rd_rel_May_15_2 br) :: []
theorem lk_rel_May_15_2 {R : Type} : ∀ e ∈ ll_rel_May_15_2 (R := R), LoopTells Try.prog X107 M_rel_May L_rel_May e.2.1 (L_rel_May e.1) (bodyOf Try.prog e.1 e.2.2.1) e.2.2.2 := List.forall_mem_cons.2 ⟨lo_rel_May_15_2, noneIn⟩
def S_rel_May : FSp := ⟨[.agg [.s, .l 35]], [], [], [([.one (.b)], [])]⟩
noncomputable def m_rel_May : List U → Rt
  | [.s v0, .l v1] =>
    (let r0 : Rs := (lres rd_rel_May_15_2 [U.l v1, U.i (ln v1), U.i (0 : Int), U.s v0, U.l v1])
    (.test (ok r0 0)
    (.stop 0 [.b (uB (out r0 0) 0)])
    (.test (ok r0 1)
    (.stop 0 [.b true])
    .fail)))
  | _ => .fail
set_option maxRecDepth 100000 in
theorem q_rel_May (v0 : ByteArray) (v1 : List (List PV)) : callK br Try.prog X107 M_rel_May L_rel_May (lsT ll_rel_May_15_2) 60 15 (encs [.s v0, .l v1] 0 S_rel_May.ap) (encH [.s v0, .l v1] (ws S_rel_May.ap) S_rel_May.ah) (fun y => fixR Try.prog S_rel_May.plan S_rel_May.ah.length y) =
    (m_rel_May [.s v0, .l v1]).go br (fun _ => none) S_rel_May.fin := by
  rw [← callF_eq]; kernel_rfl
theorem e_rel_May : EOK Try.prog 15 (gF S_rel_May m_rel_May) :=
  eokTold mixed named x107 (loopsOK_list rids lk_rel_May_15_2) 60 S_rel_May m_rel_May (by
    intro us v h; unfold m_rel_May at h; split at h
    · rename_i v0 v1; exact q_rel_May v0 v1
    · cases h) false
noncomputable abbrev X108 : Ext := extT [(15, (gF S_rel_May m_rel_May))] X107
theorem x108 : XOK Try.prog X108 := xok1 x107 e_rel_May

/-- levee/rel.some -/
def L_rel_some : FuncId → Nat → Option (List Nat) := liveT [(34, 3, [71000003, 6, 7, 8]), (34, 1000003, [3]), (34, 2000003, [2])]
def M_rel_some : FuncId → Bool := fun _ => false
noncomputable def rd_rel_some_34_3 : List U → Rt
  | [.l v0, .i v1, .i v2, .l v3] =>
    (.test (decide (v2 < v1))
    (.test (inR v2 (ln v0))
    (.test (decide ((0 + List.length (cL (el v0 v2) 0)) * 32 ≤ 140737488355328))
    (.test (decide ((List.length v3 + 1) * 32 ≤ 140737488355328))
    (.next [.l v0, .i v1, .i (w64 (v2 + (1 : Int))), .l (v3 ++ [[PV.lst 28 (cL (el v0 v2) 0), pI (cI (el v0 v2) 1)]])])
    .fail)
    .fail)
    .fail)
    (.stop 0 [.l v3]))
  | _ => .fail
def sp_rel_some_34_3 : LSp := ⟨19, ⟨[(3, .one (.all 0)), (6, .one (.l 35)), (7, .one (.i .i64)), (8, .one (.i .i64))], [.arr 35 true]⟩, [(.exit 0, ⟨[(3, .one (.all 0))], [.arr 35 true]⟩)]⟩
set_option maxRecDepth 100000 in
theorem rq_rel_some_34_3 (v0 : List (List PV)) (v1 : Int) (v2 : Int) (v3 : List (List PV)) : runK br Try.prog (callK br Try.prog X108 M_rel_some L_rel_some (lsT []) 40) M_rel_some (lsT [] 34 0) 40 0 (L_rel_some 34) (bodyOf Try.prog 34 3) (sp_rel_some_34_3.s.ts sp_rel_some_34_3.n [.l v0, .i v1, .i v2, .l v3]) (sp_rel_some_34_3.s.h [.l v0, .i v1, .i v2, .l v3]) (idc Try.prog 0 (L_rel_some 34) 3) =
    (rd_rel_some_34_3 [.l v0, .i v1, .i v2, .l v3]).go br (fun us' => some (.normal, sp_rel_some_34_3.s.ts sp_rel_some_34_3.n us', sp_rel_some_34_3.s.h us')) sp_rel_some_34_3.fin := by
  rw [← callF_eq, ← runF_eq]; kernel_rfl
theorem lo_rel_some_34_3 {R : Type} : LoopTells Try.prog X108 M_rel_some L_rel_some 0 (L_rel_some 34) (bodyOf Try.prog 34 3) (gL (R := R) sp_rel_some_34_3 rd_rel_some_34_3 br) :=
  loopTold (callK_ev (loopsOK_list rids noneIn) 40) (lsokIn (loopsOK_list rids noneIn) 34 0 3) (by kernel_rfl) sp_rel_some_34_3 rd_rel_some_34_3 rfl (by kernel_rfl) (by
    intro us v h; unfold rd_rel_some_34_3 at h; split at h
    · rename_i v0 v1 v2 v3; exact rq_rel_some_34_3 v0 v1 v2 v3
    · cases h)
noncomputable abbrev ll_rel_some_34_3 {R : Type} : List (Nat × Nat × Nat × Smy R) := (34, 0, 3, gL sp_rel_some_34_3 rd_rel_some_34_3 br) :: []
theorem lk_rel_some_34_3 {R : Type} : ∀ e ∈ ll_rel_some_34_3 (R := R), LoopTells Try.prog X108 M_rel_some L_rel_some e.2.1 (L_rel_some e.1) (bodyOf Try.prog e.1 e.2.2.1) e.2.2.2 := List.forall_mem_cons.2 ⟨lo_rel_some_34_3, noneIn⟩
def S_rel_some : FSp := ⟨[.one (.l 35)], [], [], [([.one (.all 0)], [.arr 35 true])]⟩
noncomputable def m_rel_some : List U → Rt
  | [.l v0] =>
    (let r0 : Rs := (lres rd_rel_some_34_3 [U.l v0, U.i (ln v0), U.i (0 : Int), U.l []])
    (.test (ok r0 0)
    (.stop 0 [.l (uL (out r0 0) 0)])
    .fail))
  | _ => .fail
set_option maxRecDepth 100000 in
theorem q_rel_some (v0 : List (List PV)) : callK br Try.prog X108 M_rel_some L_rel_some (lsT ll_rel_some_34_3) 60 34 (encs [.l v0] 0 S_rel_some.ap) (encH [.l v0] (ws S_rel_some.ap) S_rel_some.ah) (fun y => fixR Try.prog S_rel_some.plan S_rel_some.ah.length y) =
    (m_rel_some [.l v0]).go br (fun _ => none) S_rel_some.fin := by
  rw [← callF_eq]; kernel_rfl
theorem e_rel_some : EOK Try.prog 34 (gF S_rel_some m_rel_some) :=
  eokTold mixed named x108 (loopsOK_list rids lk_rel_some_34_3) 60 S_rel_some m_rel_some (by
    intro us v h; unfold m_rel_some at h; split at h
    · rename_i v0; exact q_rel_some v0
    · cases h) false
noncomputable abbrev X109 : Ext := extT [(34, (gF S_rel_some m_rel_some))] X108
theorem x109 : XOK Try.prog X109 := xok1 x108 e_rel_some

/-- levee/rel.find -/
def L_rel_find : FuncId → Nat → Option (List Nat) := liveT [(44, 3, [0, 2, 4, 8, 9, 10]), (44, 1000003, [0, 2, 4, 8, 9]), (44, 2000003, [6, 7])]
def M_rel_find : FuncId → Bool := fun _ => false
noncomputable def rd_rel_find_44_3 : List U → Rt
  | [.l v0, .i v1, .i v2, .i v3, .i v4, .i v5, .s v6] =>
    (.test (decide (v2 < v3))
    (.test (inR (w64 (Int.fdiv (IntKind.wrap IntKind.u64 (w64 (v2 + v3))) (2 : Int))) (ln v0))
    (.test (inR (0 : Int) (ln (cL (el v0 (w64 (Int.fdiv (IntKind.wrap IntKind.u64 (w64 (v2 + v3))) (2 : Int)))) 0)))
    (let r0 : Rs := (Rt.res (m_value_Compare [U.i (cI (List.getD (cL (el v0 (w64 (Int.fdiv (IntKind.wrap IntKind.u64 (w64 (v2 + v3))) (2 : Int)))) 0) 0 []) 0), U.i (cI (List.getD (cL (el v0 (w64 (Int.fdiv (IntKind.wrap IntKind.u64 (w64 (v2 + v3))) (2 : Int)))) 0) 0 []) 1), U.s (cS (List.getD (cL (el v0 (w64 (Int.fdiv (IntKind.wrap IntKind.u64 (w64 (v2 + v3))) (2 : Int)))) 0) 0 []) 2), U.i v4, U.i v5, U.s v6]))
    (.test (ok r0 0)
    (.test (decide (uI (out r0 0) 0 < (0 : Int)))
    (.next [.l v0, .i v1, .i (w64 (w64 (Int.fdiv (IntKind.wrap IntKind.u64 (w64 (v2 + v3))) (2 : Int)) + (1 : Int))), .i v3, .i v4, .i v5, .s v6])
    (.next [.l v0, .i v1, .i v2, .i (w64 (Int.fdiv (IntKind.wrap IntKind.u64 (w64 (v2 + v3))) (2 : Int))), .i v4, .i v5, .s v6]))
    .fail))
    .fail)
    .fail)
    (.stop 0 [.l v0, .i v1, .i v2, .i v4, .i v5, .s v6]))
  | _ => .fail
def sp_rel_find_44_3 : LSp := ⟨49, ⟨[(0, .one (.l 35)), (2, .fn 45 []), (4, .one (.ptr 0 0)), (8, .one (.i .i64)), (9, .one (.i .i64)), (10, .one (.i .i64))], [.box 28 [.one (.i .i64), .one (.i .i64), .one (.s)]]⟩, [(.exit 0, ⟨[(0, .one (.l 35)), (2, .fn 45 []), (4, .one (.ptr 0 0)), (8, .one (.i .i64)), (9, .one (.i .i64))], [.box 28 [.one (.i .i64), .one (.i .i64), .one (.s)]]⟩)]⟩
set_option maxRecDepth 100000 in
theorem rq_rel_find_44_3 (v0 : List (List PV)) (v1 : Int) (v2 : Int) (v3 : Int) (v4 : Int) (v5 : Int) (v6 : ByteArray) : runK br Try.prog (callK br Try.prog X109 M_rel_find L_rel_find (lsT []) 40) M_rel_find (lsT [] 44 0) 40 0 (L_rel_find 44) (bodyOf Try.prog 44 3) (sp_rel_find_44_3.s.ts sp_rel_find_44_3.n [.l v0, .i v1, .i v2, .i v3, .i v4, .i v5, .s v6]) (sp_rel_find_44_3.s.h [.l v0, .i v1, .i v2, .i v3, .i v4, .i v5, .s v6]) (idc Try.prog 0 (L_rel_find 44) 3) =
    (rd_rel_find_44_3 [.l v0, .i v1, .i v2, .i v3, .i v4, .i v5, .s v6]).go br (fun us' => some (.normal, sp_rel_find_44_3.s.ts sp_rel_find_44_3.n us', sp_rel_find_44_3.s.h us')) sp_rel_find_44_3.fin := by
  rw [← callF_eq, ← runF_eq]; kernel_rfl
theorem lo_rel_find_44_3 {R : Type} : LoopTells Try.prog X109 M_rel_find L_rel_find 0 (L_rel_find 44) (bodyOf Try.prog 44 3) (gL (R := R) sp_rel_find_44_3 rd_rel_find_44_3 br) :=
  loopTold (callK_ev (loopsOK_list rids noneIn) 40) (lsokIn (loopsOK_list rids noneIn) 44 0 3) (by kernel_rfl) sp_rel_find_44_3 rd_rel_find_44_3 rfl (by kernel_rfl) (by
    intro us v h; unfold rd_rel_find_44_3 at h; split at h
    · rename_i v0 v1 v2 v3 v4 v5 v6; exact rq_rel_find_44_3 v0 v1 v2 v3 v4 v5 v6
    · cases h)
noncomputable abbrev ll_rel_find_44_3 {R : Type} : List (Nat × Nat × Nat × Smy R) := (44, 0, 3, gL sp_rel_find_44_3 rd_rel_find_44_3 br) :: []
theorem lk_rel_find_44_3 {R : Type} : ∀ e ∈ ll_rel_find_44_3 (R := R), LoopTells Try.prog X109 M_rel_find L_rel_find e.2.1 (L_rel_find e.1) (bodyOf Try.prog e.1 e.2.2.1) e.2.2.2 := List.forall_mem_cons.2 ⟨lo_rel_find_44_3, noneIn⟩
def S_rel_find : FSp := ⟨[.agg [.s, .l 35], .agg [.i .i64, .i .i64, .s]], [], [], [([.one (.i .i64), .one (.b)], [])]⟩
noncomputable def m_rel_find : List U → Rt
  | [.s v0, .l v1, .i v2, .i v3, .s v4] =>
    (let r0 : Rs := (lres rd_rel_find_44_3 [U.l v1, U.i (ln v1), U.i (0 : Int), U.i (ln v1), U.i v2, U.i v3, U.s v4])
    (.test (ok r0 0)
    (.test (decide (uI (out r0 0) 2 < uI (out r0 0) 1))
    (.test (inR (uI (out r0 0) 2) (ln (uL (out r0 0) 0)))
    (.test (inR (0 : Int) (ln (cL (el (uL (out r0 0) 0) (uI (out r0 0) 2)) 0)))
    (let r1 : Rs := (Rt.res (m_value_Compare [U.i (cI (List.getD (cL (el (uL (out r0 0) 0) (uI (out r0 0) 2)) 0) 0 []) 0), U.i (cI (List.getD (cL (el (uL (out r0 0) 0) (uI (out r0 0) 2)) 0) 0 []) 1), U.s (cS (List.getD (cL (el (uL (out r0 0) 0) (uI (out r0 0) 2)) 0) 0 []) 2), U.i (uI (out r0 0) 3), U.i (uI (out r0 0) 4), U.s (uS (out r0 0) 5)]))
    (.test (ok r1 0)
    (.stop 0 [.i (uI (out r0 0) 2), .b (uI (out r1 0) 0 == (0 : Int))])
    .fail))
    .fail)
    .fail)
    (.stop 0 [.i (uI (out r0 0) 2), .b false]))
    .fail))
  | _ => .fail
set_option maxRecDepth 100000 in
theorem q_rel_find (v0 : ByteArray) (v1 : List (List PV)) (v2 : Int) (v3 : Int) (v4 : ByteArray) : callK br Try.prog X109 M_rel_find L_rel_find (lsT ll_rel_find_44_3) 60 31 (encs [.s v0, .l v1, .i v2, .i v3, .s v4] 0 S_rel_find.ap) (encH [.s v0, .l v1, .i v2, .i v3, .s v4] (ws S_rel_find.ap) S_rel_find.ah) (fun y => fixR Try.prog S_rel_find.plan S_rel_find.ah.length y) =
    (m_rel_find [.s v0, .l v1, .i v2, .i v3, .s v4]).go br (fun _ => none) S_rel_find.fin := by
  rw [← callF_eq]; kernel_rfl
theorem e_rel_find : EOK Try.prog 31 (gF S_rel_find m_rel_find) :=
  eokTold mixed named x109 (loopsOK_list rids lk_rel_find_44_3) 60 S_rel_find m_rel_find (by
    intro us v h; unfold m_rel_find at h; split at h
    · rename_i v0 v1 v2 v3 v4; exact q_rel_find v0 v1 v2 v3 v4
    · cases h) false
noncomputable abbrev X110 : Ext := extT [(31, (gF S_rel_find m_rel_find))] X109
theorem x110 : XOK Try.prog X110 := xok1 x109 e_rel_find

/-- levee/rel.find -/
def L_find_own : FuncId → Nat → Option (List Nat) := liveT [(44, 3, [0, 2, 4, 8, 9, 10]), (44, 1000003, [0, 2, 4, 8, 9]), (44, 2000003, [6, 7])]
def M_find_own : FuncId → Bool := fun f => f == 44
noncomputable def rd_find_own_44_3 : List U → Rt
  | [.i v0, .i v1, .i v2, .l v3, .i v4, .i v5, .s v6] =>
    (.test (decide (v1 < v2))
    (.test (inR (w64 (Int.fdiv (IntKind.wrap IntKind.u64 (w64 (v1 + v2))) (2 : Int))) (ln v3))
    (.test (decide (Int.toNat (w64 (Int.fdiv (IntKind.wrap IntKind.u64 (w64 (v1 + v2))) (2 : Int))) < List.length v3))
    (.test (inR (0 : Int) (ln (cL (el v3 (w64 (Int.fdiv (IntKind.wrap IntKind.u64 (w64 (v1 + v2))) (2 : Int)))) 0)))
    (let r0 : Rs := (Rt.res (m_value_Compare [U.i (cI (List.getD (cL (el v3 (w64 (Int.fdiv (IntKind.wrap IntKind.u64 (w64 (v1 + v2))) (2 : Int)))) 0) 0 []) 0), U.i (cI (List.getD (cL (el v3 (w64 (Int.fdiv (IntKind.wrap IntKind.u64 (w64 (v1 + v2))) (2 : Int)))) 0) 0 []) 1), U.s (cS (List.getD (cL (el v3 (w64 (Int.fdiv (IntKind.wrap IntKind.u64 (w64 (v1 + v2))) (2 : Int)))) 0) 0 []) 2), U.i v4, U.i v5, U.s v6]))
    (.test (ok r0 0)
    (.test (decide (uI (out r0 0) 0 < (0 : Int)))
    (.next [.i v0, .i (w64 (w64 (Int.fdiv (IntKind.wrap IntKind.u64 (w64 (v1 + v2))) (2 : Int)) + (1 : Int))), .i v2, .l v3, .i v4, .i v5, .s v6])
    (.next [.i v0, .i v1, .i (w64 (Int.fdiv (IntKind.wrap IntKind.u64 (w64 (v1 + v2))) (2 : Int))), .l v3, .i v4, .i v5, .s v6]))
    .fail))
    .fail)
    .fail)
    .fail)
    (.stop 0 [.i v0, .i v1, .l v3, .i v4, .i v5, .s v6]))
  | _ => .fail
def sp_find_own_44_3 : LSp := ⟨49, ⟨[(0, .one (.all 0)), (2, .fn 45 []), (4, .one (.ptr 1 0)), (8, .one (.i .i64)), (9, .one (.i .i64)), (10, .one (.i .i64))], [.arr 35 true, .box 28 [.one (.i .i64), .one (.i .i64), .one (.s)]]⟩, [(.exit 0, ⟨[(0, .one (.all 0)), (2, .fn 45 []), (4, .one (.ptr 1 0)), (8, .one (.i .i64)), (9, .one (.i .i64))], [.arr 35 true, .box 28 [.one (.i .i64), .one (.i .i64), .one (.s)]]⟩)]⟩
set_option maxRecDepth 100000 in
theorem rq_find_own_44_3 (v0 : Int) (v1 : Int) (v2 : Int) (v3 : List (List PV)) (v4 : Int) (v5 : Int) (v6 : ByteArray) : runK br Try.prog (callK br Try.prog X109 M_find_own L_find_own (lsT []) 40) M_find_own (lsT [] 44 1) 40 1 (L_find_own 44) (bodyOf Try.prog 44 3) (sp_find_own_44_3.s.ts sp_find_own_44_3.n [.i v0, .i v1, .i v2, .l v3, .i v4, .i v5, .s v6]) (sp_find_own_44_3.s.h [.i v0, .i v1, .i v2, .l v3, .i v4, .i v5, .s v6]) (idc Try.prog 1 (L_find_own 44) 3) =
    (rd_find_own_44_3 [.i v0, .i v1, .i v2, .l v3, .i v4, .i v5, .s v6]).go br (fun us' => some (.normal, sp_find_own_44_3.s.ts sp_find_own_44_3.n us', sp_find_own_44_3.s.h us')) sp_find_own_44_3.fin := by
  rw [← callF_eq, ← runF_eq]; kernel_rfl
theorem lo_find_own_44_3 {R : Type} : LoopTells Try.prog X109 M_find_own L_find_own 1 (L_find_own 44) (bodyOf Try.prog 44 3) (gL (R := R) sp_find_own_44_3 rd_find_own_44_3 br) :=
  loopTold (callK_ev (loopsOK_list rids noneIn) 40) (lsokIn (loopsOK_list rids noneIn) 44 1 3) (by kernel_rfl) sp_find_own_44_3 rd_find_own_44_3 rfl (by kernel_rfl) (by
    intro us v h; unfold rd_find_own_44_3 at h; split at h
    · rename_i v0 v1 v2 v3 v4 v5 v6; exact rq_find_own_44_3 v0 v1 v2 v3 v4 v5 v6
    · cases h)
noncomputable abbrev ll_find_own_44_3 {R : Type} : List (Nat × Nat × Nat × Smy R) := (44, 1, 3, gL sp_find_own_44_3 rd_find_own_44_3 br) :: []
theorem lk_find_own_44_3 {R : Type} : ∀ e ∈ ll_find_own_44_3 (R := R), LoopTells Try.prog X109 M_find_own L_find_own e.2.1 (L_find_own e.1) (bodyOf Try.prog e.1 e.2.2.1) e.2.2.2 := List.forall_mem_cons.2 ⟨lo_find_own_44_3, noneIn⟩
def S_find_own : FSp := ⟨[.agg [.s, .all 0], .agg [.i .i64, .i .i64, .s]], [.arr 35 true], [], [([.one (.i .i64), .one (.b)], [.arr 35 true])]⟩
noncomputable def m_find_own : List U → Rt
  | [.s v0, .i v1, .i v2, .s v3, .l v4] =>
    (let r0 : Rs := (lres rd_find_own_44_3 [U.i (ln v4), U.i (0 : Int), U.i (ln v4), U.l v4, U.i v1, U.i v2, U.s v3])
    (.test (ok r0 0)
    (.test (decide (uI (out r0 0) 1 < uI (out r0 0) 0))
    (.test (inR (uI (out r0 0) 1) (ln (uL (out r0 0) 2)))
    (.test (decide (Int.toNat (uI (out r0 0) 1) < List.length (uL (out r0 0) 2)))
    (.test (inR (0 : Int) (ln (cL (el (uL (out r0 0) 2) (uI (out r0 0) 1)) 0)))
    (let r1 : Rs := (Rt.res (m_value_Compare [U.i (cI (List.getD (cL (el (uL (out r0 0) 2) (uI (out r0 0) 1)) 0) 0 []) 0), U.i (cI (List.getD (cL (el (uL (out r0 0) 2) (uI (out r0 0) 1)) 0) 0 []) 1), U.s (cS (List.getD (cL (el (uL (out r0 0) 2) (uI (out r0 0) 1)) 0) 0 []) 2), U.i (uI (out r0 0) 3), U.i (uI (out r0 0) 4), U.s (uS (out r0 0) 5)]))
    (.test (ok r1 0)
    (.stop 0 [.i (uI (out r0 0) 1), .b (uI (out r1 0) 0 == (0 : Int)), .l (uL (out r0 0) 2)])
    .fail))
    .fail)
    .fail)
    .fail)
    (.stop 0 [.i (uI (out r0 0) 1), .b false, .l (uL (out r0 0) 2)]))
    .fail))
  | _ => .fail
set_option maxRecDepth 100000 in
theorem q_find_own (v0 : ByteArray) (v1 : Int) (v2 : Int) (v3 : ByteArray) (v4 : List (List PV)) : callK br Try.prog X109 M_find_own L_find_own (lsT ll_find_own_44_3) 60 31 (encs [.s v0, .i v1, .i v2, .s v3, .l v4] 0 S_find_own.ap) (encH [.s v0, .i v1, .i v2, .s v3, .l v4] (ws S_find_own.ap) S_find_own.ah) (fun y => fixR Try.prog S_find_own.plan S_find_own.ah.length y) =
    (m_find_own [.s v0, .i v1, .i v2, .s v3, .l v4]).go br (fun _ => none) S_find_own.fin := by
  rw [← callF_eq]; kernel_rfl
theorem e_find_own : EOK Try.prog 31 (gF S_find_own m_find_own) :=
  eokTold mixed named x109 (loopsOK_list rids lk_find_own_44_3) 60 S_find_own m_find_own (by
    intro us v h; unfold m_find_own at h; split at h
    · rename_i v0 v1 v2 v3 v4; exact q_find_own v0 v1 v2 v3 v4
    · cases h) false
noncomputable abbrev X111 : Ext := extT [(31, (gE S_find_own m_find_own (gF S_rel_find m_rel_find)))] X110
theorem x111 : XOK Try.prog X111 := xok1 x110 (eokE e_find_own e_rel_find)

/-- levee/rel.Put -/
def L_rel_Put : FuncId → Nat → Option (List Nat) := liveT []
def M_rel_Put : FuncId → Bool := fun f => f == 31 || f == 37
def S_rel_Put : FSp := ⟨[.agg [.s, .l 35], .one (.l 28), .one (.i .i64)], [], [2000071000000], [([.agg [.s, .all 0]], [.arr 35 true])]⟩
noncomputable def m_rel_Put : List U → Rt
  | [.s v0, .l v1, .l v2, .i v3] =>
    (.test (decide ((0 + List.length v2) * 32 ≤ 140737488355328))
    (let r0 : Rs := (Rt.res (m_rel_May [U.s v0, U.l v1]))
    (.test (ok r0 0)
    (.test (!uB (out r0 0) 0)
    (.stop 0 [.s ({ data := #[] }), .l []])
    (let r1 : Rs := (Rt.res (m_rel_right [U.l v2, U.i v3]))
    (.test (ok r1 0)
    (.test (!uB (out r1 0) 0)
    (.stop 0 [.s ({ data := #[] }), .l []])
    (let r2 : Rs := (Rt.res (m_rel_some [U.l v1]))
    (.test (ok r2 0)
    (.test (inR (0 : Int) (ln v2))
    (.test (decide (0 < List.length v2))
    (let r3 : Rs := (Rt.res (m_find_own [U.s v0, U.i (cI (List.getD v2 0 []) 0), U.i (cI (List.getD v2 0 []) 1), U.s (cS (List.getD v2 0 []) 2), U.l (uL (out r2 0) 0)]))
    (.test (ok r3 0)
    (.test (uB (out r3 0) 1)
    (.test (inR (uI (out r3 0) 0) (ln (uL (out r3 0) 2)))
    (.test (decide (Int.toNat (uI (out r3 0) 0) < List.length (uL (out r3 0) 2)))
    (.stop 0 [.s v0, .l (List.set (uL (out r3 0) 2) (Int.toNat (uI (out r3 0) 0)) (setCells (el (uL (out r3 0) 2) (uI (out r3 0) 0)) 0 [PV.lst 28 v2, pI v3]))])
    .fail)
    .fail)
    (.test (decide ((0 : Int) ≤ uI (out r3 0) 0 ∧ uI (out r3 0) 0 ≤ ln (uL (out r3 0) 2) ∧ (ln (uL (out r3 0) 2) + (1 : Int)) * (32 : Int) ≤ (140737488355328 : Int)))
    (.stop 0 [.s v0, .l (insL (uL (out r3 0) 2) (uI (out r3 0) 0) [PV.lst 28 v2, pI v3])])
    .fail))
    .fail))
    .fail)
    .fail)
    .fail)))
    .fail)))
    .fail))
    .fail)
  | _ => .fail
set_option maxRecDepth 100000 in
theorem q_rel_Put (v0 : ByteArray) (v1 : List (List PV)) (v2 : List (List PV)) (v3 : Int) : callK br Try.prog X111 M_rel_Put L_rel_Put (lsT []) 60 19 (encs [.s v0, .l v1, .l v2, .i v3] 0 S_rel_Put.ap) (encH [.s v0, .l v1, .l v2, .i v3] (ws S_rel_Put.ap) S_rel_Put.ah) (fun y => fixR Try.prog S_rel_Put.plan S_rel_Put.ah.length y) =
    (m_rel_Put [.s v0, .l v1, .l v2, .i v3]).go br (fun _ => none) S_rel_Put.fin := by
  rw [← callF_eq]; kernel_rfl
theorem e_rel_Put : EOK Try.prog 19 (gF S_rel_Put m_rel_Put) :=
  eokTold mixed named x111 (loopsOK_list rids noneIn) 60 S_rel_Put m_rel_Put (by
    intro us v h; unfold m_rel_Put at h; split at h
    · rename_i v0 v1 v2 v3; exact q_rel_Put v0 v1 v2 v3
    · cases h) false
noncomputable abbrev X112 : Ext := extT [(19, (gF S_rel_Put m_rel_Put))] X111
theorem x112 : XOK Try.prog X112 := xok1 x111 e_rel_Put

/-- levee/rel.Get -/
def L_rel_Get : FuncId → Nat → Option (List Nat) := liveT []
def M_rel_Get : FuncId → Bool := fun _ => false
def S_rel_Get : FSp := ⟨[.agg [.s, .l 35], .agg [.i .i64, .i .i64, .s]], [], [1000057000000], [([.agg [.all 0, .i .i64], .one (.b)], [.arr 28 true])]⟩
noncomputable def m_rel_Get : List U → Rt
  | [.s v0, .l v1, .i v2, .i v3, .s v4] =>
    (let r0 : Rs := (Rt.res (m_rel_May [U.s v0, U.l v1]))
    (.test (ok r0 0)
    (.test (!uB (out r0 0) 0)
    (.stop 0 [.i ((0 : Int)), .b false, .l []])
    (let r1 : Rs := (Rt.res (m_rel_find [U.s v0, U.l v1, U.i v2, U.i v3, U.s v4]))
    (.test (ok r1 0)
    (.test (!uB (out r1 0) 1)
    (.stop 0 [.i ((0 : Int)), .b false, .l []])
    (.test (inR (uI (out r1 0) 0) (ln v1))
    (.test (decide ((0 + List.length (cL (el v1 (uI (out r1 0) 0)) 0)) * 32 ≤ 140737488355328))
    (.stop 0 [.i (cI (el v1 (uI (out r1 0) 0)) 1), .b true, .l (cL (el v1 (uI (out r1 0) 0)) 0)])
    .fail)
    .fail))
    .fail)))
    .fail))
  | _ => .fail
set_option maxRecDepth 100000 in
theorem q_rel_Get (v0 : ByteArray) (v1 : List (List PV)) (v2 : Int) (v3 : Int) (v4 : ByteArray) : callK br Try.prog X112 M_rel_Get L_rel_Get (lsT []) 60 11 (encs [.s v0, .l v1, .i v2, .i v3, .s v4] 0 S_rel_Get.ap) (encH [.s v0, .l v1, .i v2, .i v3, .s v4] (ws S_rel_Get.ap) S_rel_Get.ah) (fun y => fixR Try.prog S_rel_Get.plan S_rel_Get.ah.length y) =
    (m_rel_Get [.s v0, .l v1, .i v2, .i v3, .s v4]).go br (fun _ => none) S_rel_Get.fin := by
  rw [← callF_eq]; kernel_rfl
theorem e_rel_Get : EOK Try.prog 11 (gF S_rel_Get m_rel_Get) :=
  eokTold mixed named x112 (loopsOK_list rids noneIn) 60 S_rel_Get m_rel_Get (by
    intro us v h; unfold m_rel_Get at h; split at h
    · rename_i v0 v1 v2 v3 v4; exact q_rel_Get v0 v1 v2 v3 v4
    · cases h) false
noncomputable abbrev X113 : Ext := extT [(11, (gF S_rel_Get m_rel_Get))] X112
theorem x113 : XOK Try.prog X113 := xok1 x112 e_rel_Get

/-- levee/rel.Cut -/
def L_rel_Cut : FuncId → Nat → Option (List Nat) := liveT []
def M_rel_Cut : FuncId → Bool := fun f => f == 33
def S_rel_Cut : FSp := ⟨[.agg [.s, .l 35], .agg [.i .i64, .i .i64, .s]], [], [2000071000000], [([.agg [.s, .all 0], .one (.b)], [.arr 35 true])]⟩
noncomputable def m_rel_Cut : List U → Rt
  | [.s v0, .l v1, .i v2, .i v3, .s v4] =>
    (let r0 : Rs := (Rt.res (m_rel_May [U.s v0, U.l v1]))
    (.test (ok r0 0)
    (.test (!uB (out r0 0) 0)
    (.stop 0 [.s ({ data := #[] }), .b false, .l []])
    (let r1 : Rs := (Rt.res (m_rel_find [U.s v0, U.l v1, U.i v2, U.i v3, U.s v4]))
    (.test (ok r1 0)
    (.test (!uB (out r1 0) 1)
    (.stop 0 [.s ({ data := #[] }), .b false, .l []])
    (let r2 : Rs := (Rt.res (m_rel_some [U.l v1]))
    (.test (ok r2 0)
    (.test (decide ((0 : Int) ≤ uI (out r1 0) 0 ∧ uI (out r1 0) 0 < ln (uL (out r2 0) 0) ∧ w64 (uI (out r1 0) 0 + (1 : Int)) = uI (out r1 0) 0 + (1 : Int) ∧ (ln (uL (out r2 0) 0) + (1 : Int)) * (32 : Int) ≤ (140737488355328 : Int)))
    (.stop 0 [.s v0, .b true, .l (delL (uL (out r2 0) 0) (uI (out r1 0) 0))])
    .fail)
    .fail)))
    .fail)))
    .fail))
  | _ => .fail
set_option maxRecDepth 100000 in
theorem q_rel_Cut (v0 : ByteArray) (v1 : List (List PV)) (v2 : Int) (v3 : Int) (v4 : ByteArray) : callK br Try.prog X113 M_rel_Cut L_rel_Cut (lsT []) 60 13 (encs [.s v0, .l v1, .i v2, .i v3, .s v4] 0 S_rel_Cut.ap) (encH [.s v0, .l v1, .i v2, .i v3, .s v4] (ws S_rel_Cut.ap) S_rel_Cut.ah) (fun y => fixR Try.prog S_rel_Cut.plan S_rel_Cut.ah.length y) =
    (m_rel_Cut [.s v0, .l v1, .i v2, .i v3, .s v4]).go br (fun _ => none) S_rel_Cut.fin := by
  rw [← callF_eq]; kernel_rfl
theorem e_rel_Cut : EOK Try.prog 13 (gF S_rel_Cut m_rel_Cut) :=
  eokTold mixed named x113 (loopsOK_list rids noneIn) 60 S_rel_Cut m_rel_Cut (by
    intro us v h; unfold m_rel_Cut at h; split at h
    · rename_i v0 v1 v2 v3 v4; exact q_rel_Cut v0 v1 v2 v3 v4
    · cases h) false
noncomputable abbrev X114 : Ext := extT [(13, (gF S_rel_Cut m_rel_Cut))] X113
theorem x114 : XOK Try.prog X114 := xok1 x113 e_rel_Cut

/-- levee/rel.Scan -/
def L_rel_Scan : FuncId → Nat → Option (List Nat) := liveT []
def M_rel_Scan : FuncId → Bool := fun _ => false
def S_rel_Scan : FSp := ⟨[.agg [.s, .l 35], .agg [.i .i64, .i .i64, .s], .agg [.i .i64, .i .i64, .s]], [], [71000000], [([.one (.all 0)], [.arr 35 true])]⟩
noncomputable def m_rel_Scan : List U → Rt
  | [.s v0, .l v1, .i v2, .i v3, .s v4, .i v5, .i v6, .s v7] =>
    (let r0 : Rs := (Rt.res (m_rel_May [U.s v0, U.l v1]))
    (.test (ok r0 0)
    (.test (!uB (out r0 0) 0)
    (.stop 0 [.l []])
    (let r1 : Rs := (Rt.res (m_value_Compare [U.i v2, U.i v3, U.s v4, U.i v5, U.i v6, U.s v7]))
    (.test (ok r1 0)
    (.test (decide (uI (out r1 0) 0 ≥ (0 : Int)))
    (.stop 0 [.l []])
    (let r2 : Rs := (Rt.res (m_rel_find [U.s v0, U.l v1, U.i v2, U.i v3, U.s v4]))
    (.test (ok r2 0)
    (let r3 : Rs := (Rt.res (m_rel_find [U.s v0, U.l v1, U.i v5, U.i v6, U.s v7]))
    (.test (ok r3 0)
    (.test (decide ((0 : Int) ≤ uI (out r2 0) 0 ∧ uI (out r2 0) 0 ≤ uI (out r3 0) 0 ∧ uI (out r3 0) 0 ≤ ln v1))
    (let r4 : Rs := (Rt.res (m_rel_some [U.l (List.take (Int.toNat (uI (out r3 0) 0) - Int.toNat (uI (out r2 0) 0)) (List.drop (Int.toNat (uI (out r2 0) 0)) v1))]))
    (.test (ok r4 0)
    (.stop 0 [.l (uL (out r4 0) 0)])
    .fail))
    .fail)
    .fail))
    .fail)))
    .fail)))
    .fail))
  | _ => .fail
set_option maxRecDepth 100000 in
theorem q_rel_Scan (v0 : ByteArray) (v1 : List (List PV)) (v2 : Int) (v3 : Int) (v4 : ByteArray) (v5 : Int) (v6 : Int) (v7 : ByteArray) : callK br Try.prog X114 M_rel_Scan L_rel_Scan (lsT []) 60 21 (encs [.s v0, .l v1, .i v2, .i v3, .s v4, .i v5, .i v6, .s v7] 0 S_rel_Scan.ap) (encH [.s v0, .l v1, .i v2, .i v3, .s v4, .i v5, .i v6, .s v7] (ws S_rel_Scan.ap) S_rel_Scan.ah) (fun y => fixR Try.prog S_rel_Scan.plan S_rel_Scan.ah.length y) =
    (m_rel_Scan [.s v0, .l v1, .i v2, .i v3, .s v4, .i v5, .i v6, .s v7]).go br (fun _ => none) S_rel_Scan.fin := by
  rw [← callF_eq]; kernel_rfl
theorem e_rel_Scan : EOK Try.prog 21 (gF S_rel_Scan m_rel_Scan) :=
  eokTold mixed named x114 (loopsOK_list rids noneIn) 60 S_rel_Scan m_rel_Scan (by
    intro us v h; unfold m_rel_Scan at h; split at h
    · rename_i v0 v1 v2 v3 v4 v5 v6 v7; exact q_rel_Scan v0 v1 v2 v3 v4 v5 v6 v7
    · cases h) false
noncomputable abbrev X115 : Ext := extT [(21, (gF S_rel_Scan m_rel_Scan))] X114
theorem x115 : XOK Try.prog X115 := xok1 x114 e_rel_Scan

/-- levee/bag.Sum -/
def L_bag_Sum : FuncId → Nat → Option (List Nat) := liveT [(53, 7, [0, 3, 4, 5]), (53, 1000007, [0, 3, 4, 5]), (53, 2000007, [2]), (53, 5, [0, 109000003, 4]), (53, 1000005, [3]), (53, 2000005, [2])]
def M_bag_Sum : FuncId → Bool := fun f => f == 65
noncomputable def rd_bag_Sum_53_7 : List U → Rt
  | [.i v0, .l v1, .l v2, .i v3, .l v4] =>
    (.test (decide (v0 < ln v1))
    (.test (inR v0 (ln v1))
    (.test (decide (Int.toNat v0 < List.length v1))
    (let r0 : Rs := (Rt.res (m_row_Compare [U.l (cL (el v1 v0) 0), U.l v4]))
    (.test (ok r0 0)
    (.test (uI (out r0 0) 0 == (0 : Int))
    (.test (inR v0 (ln v1))
    (.test (decide (Int.toNat v0 < List.length v1))
    (.next [.i (w64 (v0 + (1 : Int))), .l v1, .l v2, .i (w64 (v3 + cI (el v1 v0) 1)), .l v4])
    .fail)
    .fail)
    (.stop 0 [.i v0, .l v1, .l v2, .i v3, .l v4]))
    .fail))
    .fail)
    .fail)
    (.stop 0 [.i v0, .l v1, .l v2, .i v3, .l v4]))
  | _ => .fail
def sp_bag_Sum_53_7 : LSp := ⟨55, ⟨[(0, .one (.all 0)), (3, .one (.all 1)), (4, .one (.i .i64)), (5, .one (.ptr 2 0))], [.arr 54 true, .arr 54 true, .box 54 [.one (.all 3), .one (.i .i64)], .arr 28 true]⟩, [(.exit 2, ⟨[(0, .one (.all 0)), (3, .one (.all 1)), (4, .one (.i .i64)), (5, .one (.ptr 2 0))], [.arr 54 true, .arr 54 true, .box 54 [.one (.all 3), .one (.i .i64)], .arr 28 true]⟩)]⟩
set_option maxRecDepth 100000 in
theorem rq_bag_Sum_53_7 (v0 : Int) (v1 : List (List PV)) (v2 : List (List PV)) (v3 : Int) (v4 : List (List PV)) : runK br Try.prog (callK br Try.prog X115 M_bag_Sum L_bag_Sum (lsT []) 40) M_bag_Sum (lsT [] 53 0) 40 0 (L_bag_Sum 53) (bodyOf Try.prog 53 7) (sp_bag_Sum_53_7.s.ts sp_bag_Sum_53_7.n [.i v0, .l v1, .l v2, .i v3, .l v4]) (sp_bag_Sum_53_7.s.h [.i v0, .l v1, .l v2, .i v3, .l v4]) (idc Try.prog 0 (L_bag_Sum 53) 7) =
    (rd_bag_Sum_53_7 [.i v0, .l v1, .l v2, .i v3, .l v4]).go br (fun us' => some (.normal, sp_bag_Sum_53_7.s.ts sp_bag_Sum_53_7.n us', sp_bag_Sum_53_7.s.h us')) sp_bag_Sum_53_7.fin := by
  rw [← callF_eq, ← runF_eq]; kernel_rfl
theorem lo_bag_Sum_53_7 {R : Type} : LoopTells Try.prog X115 M_bag_Sum L_bag_Sum 0 (L_bag_Sum 53) (bodyOf Try.prog 53 7) (gL (R := R) sp_bag_Sum_53_7 rd_bag_Sum_53_7 br) :=
  loopTold (callK_ev (loopsOK_list rids noneIn) 40) (lsokIn (loopsOK_list rids noneIn) 53 0 7) (by kernel_rfl) sp_bag_Sum_53_7 rd_bag_Sum_53_7 rfl (by kernel_rfl) (by
    intro us v h; unfold rd_bag_Sum_53_7 at h; split at h
    · rename_i v0 v1 v2 v3 v4; exact rq_bag_Sum_53_7 v0 v1 v2 v3 v4
    · cases h)
noncomputable abbrev ll_bag_Sum_53_7 {R : Type} : List (Nat × Nat × Nat × Smy R) := (53, 0, 7, gL sp_bag_Sum_53_7 rd_bag_Sum_53_7 br) :: []
theorem lk_bag_Sum_53_7 {R : Type} : ∀ e ∈ ll_bag_Sum_53_7 (R := R), LoopTells Try.prog X115 M_bag_Sum L_bag_Sum e.2.1 (L_bag_Sum e.1) (bodyOf Try.prog e.1 e.2.2.1) e.2.2.2 := List.forall_mem_cons.2 ⟨lo_bag_Sum_53_7, noneIn⟩
noncomputable def rd_bag_Sum_53_5 : List U → Rt
  | [.i v0, .l v1, .l v2] =>
    (.test (decide (v0 < ln v1))
    (.test (inR v0 (ln v1))
    (.test (decide (Int.toNat v0 < List.length v1))
    (.test (decide ((0 + List.length (cL (el v1 v0) 0)) * 32 ≤ 140737488355328))
    (let r0 : Rs := (lres rd_bag_Sum_53_7 [U.i v0, U.l v1, U.l v2, U.i (0 : Int), U.l (cL (el v1 v0) 0)])
    (.test (ok r0 0)
    (.test (uI (out r0 0) 3 != (0 : Int))
    (.test (decide ((List.length (uL (out r0 0) 2) + 1) * 32 ≤ 140737488355328))
    (.next [.i (uI (out r0 0) 0), .l (uL (out r0 0) 1), .l (uL (out r0 0) 2 ++ [[PV.lst 28 (uL (out r0 0) 4), pI (uI (out r0 0) 3)]])])
    .fail)
    (.next [.i (uI (out r0 0) 0), .l (uL (out r0 0) 1), .l (uL (out r0 0) 2)]))
    .fail))
    .fail)
    .fail)
    .fail)
    (.stop 0 [.l v2]))
  | _ => .fail
def sp_bag_Sum_53_5 : LSp := ⟨55, ⟨[(0, .one (.all 0)), (3, .one (.all 1)), (4, .one (.i .i64))], [.arr 54 true, .arr 54 true]⟩, [(.exit 0, ⟨[(3, .one (.all 0))], [.arr 54 true]⟩)]⟩
set_option maxRecDepth 100000 in
theorem rq_bag_Sum_53_5 (v0 : Int) (v1 : List (List PV)) (v2 : List (List PV)) : runK br Try.prog (callK br Try.prog X115 M_bag_Sum L_bag_Sum (lsT ll_bag_Sum_53_7) 40) M_bag_Sum (lsT ll_bag_Sum_53_7 53 0) 40 0 (L_bag_Sum 53) (bodyOf Try.prog 53 5) (sp_bag_Sum_53_5.s.ts sp_bag_Sum_53_5.n [.i v0, .l v1, .l v2]) (sp_bag_Sum_53_5.s.h [.i v0, .l v1, .l v2]) (idc Try.prog 0 (L_bag_Sum 53) 5) =
    (rd_bag_Sum_53_5 [.i v0, .l v1, .l v2]).go br (fun us' => some (.normal, sp_bag_Sum_53_5.s.ts sp_bag_Sum_53_5.n us', sp_bag_Sum_53_5.s.h us')) sp_bag_Sum_53_5.fin := by
  rw [← callF_eq, ← runF_eq]; kernel_rfl
theorem lo_bag_Sum_53_5 {R : Type} : LoopTells Try.prog X115 M_bag_Sum L_bag_Sum 0 (L_bag_Sum 53) (bodyOf Try.prog 53 5) (gL (R := R) sp_bag_Sum_53_5 rd_bag_Sum_53_5 br) :=
  loopTold (callK_ev (loopsOK_list rids lk_bag_Sum_53_7) 40) (lsokIn (loopsOK_list rids lk_bag_Sum_53_7) 53 0 5) (by kernel_rfl) sp_bag_Sum_53_5 rd_bag_Sum_53_5 rfl (by kernel_rfl) (by
    intro us v h; unfold rd_bag_Sum_53_5 at h; split at h
    · rename_i v0 v1 v2; exact rq_bag_Sum_53_5 v0 v1 v2
    · cases h)
noncomputable abbrev ll_bag_Sum_53_5 {R : Type} : List (Nat × Nat × Nat × Smy R) := (53, 0, 5, gL sp_bag_Sum_53_5 rd_bag_Sum_53_5 br) :: ll_bag_Sum_53_7
theorem lk_bag_Sum_53_5 {R : Type} : ∀ e ∈ ll_bag_Sum_53_5 (R := R), LoopTells Try.prog X115 M_bag_Sum L_bag_Sum e.2.1 (L_bag_Sum e.1) (bodyOf Try.prog e.1 e.2.2.1) e.2.2.2 := List.forall_mem_cons.2 ⟨lo_bag_Sum_53_5, lk_bag_Sum_53_7⟩
def S_bag_Sum : FSp := ⟨[.one (.l 54)], [], [], [([.one (.all 0)], [.arr 54 true])]⟩
noncomputable def m_bag_Sum : List U → Rt
  | [.l v0] =>
    (.test (decide ((0 + List.length v0) * 32 ≤ 140737488355328))
    (let r0 : Rs := (Rt.res (m_slices_SortStableFunc_ [U.l v0]))
    (.test (ok r0 0)
    (let r1 : Rs := (lres rd_bag_Sum_53_5 [U.i (0 : Int), U.l (uL (out r0 0) 0), U.l []])
    (.test (ok r1 0)
    (.stop 0 [.l (uL (out r1 0) 0)])
    .fail))
    .fail))
    .fail)
  | _ => .fail
set_option maxRecDepth 100000 in
theorem q_bag_Sum (v0 : List (List PV)) : callK br Try.prog X115 M_bag_Sum L_bag_Sum (lsT ll_bag_Sum_53_5) 60 53 (encs [.l v0] 0 S_bag_Sum.ap) (encH [.l v0] (ws S_bag_Sum.ap) S_bag_Sum.ah) (fun y => fixR Try.prog S_bag_Sum.plan S_bag_Sum.ah.length y) =
    (m_bag_Sum [.l v0]).go br (fun _ => none) S_bag_Sum.fin := by
  rw [← callF_eq]; kernel_rfl
theorem e_bag_Sum : EOK Try.prog 53 (gF S_bag_Sum m_bag_Sum) :=
  eokTold mixed named x115 (loopsOK_list rids lk_bag_Sum_53_5) 60 S_bag_Sum m_bag_Sum (by
    intro us v h; unfold m_bag_Sum at h; split at h
    · rename_i v0; exact q_bag_Sum v0
    · cases h) false
noncomputable abbrev X116 : Ext := extT [(53, (gF S_bag_Sum m_bag_Sum))] X115
theorem x116 : XOK Try.prog X116 := xok1 x115 e_bag_Sum

/-- levee/bag.Of -/
def L_bag_Of : FuncId → Nat → Option (List Nat) := liveT [(38, 3, [109000003, 6, 7, 8]), (38, 1000003, [3]), (38, 2000003, [2])]
def M_bag_Of : FuncId → Bool := fun _ => false
noncomputable def rd_bag_Of_38_3 : List U → Rt
  | [.l v0, .i v1, .i v2, .l v3] =>
    (.test (decide (v2 < v1))
    (.test (inR v2 (ln v0))
    (let r0 : Rs := (Rt.res (m_row_May [U.l (cL (el v0 v2) 0)]))
    (.test (ok r0 0)
    (.test (!uB (out r0 0) 0)
    (.stop 0 [])
    (.test (decide ((List.length v3 + 1) * 32 ≤ 140737488355328))
    (.next [.l v0, .i v1, .i (w64 (v2 + (1 : Int))), .l (v3 ++ [[PV.lst 28 (cL (el v0 v2) 0), pI (1 : Int)]])])
    .fail))
    .fail))
    .fail)
    (.stop 1 [.l v3]))
  | _ => .fail
def sp_bag_Of_38_3 : LSp := ⟨23, ⟨[(3, .one (.all 0)), (6, .one (.l 26)), (7, .one (.i .i64)), (8, .one (.i .i64))], [.arr 54 true]⟩, [(.ret, ⟨[(2, .one (.nils))], []⟩), (.exit 0, ⟨[(3, .one (.all 0))], [.arr 54 true]⟩)]⟩
set_option maxRecDepth 100000 in
theorem rq_bag_Of_38_3 (v0 : List (List PV)) (v1 : Int) (v2 : Int) (v3 : List (List PV)) : runK br Try.prog (callK br Try.prog X116 M_bag_Of L_bag_Of (lsT []) 40) M_bag_Of (lsT [] 38 0) 40 0 (L_bag_Of 38) (bodyOf Try.prog 38 3) (sp_bag_Of_38_3.s.ts sp_bag_Of_38_3.n [.l v0, .i v1, .i v2, .l v3]) (sp_bag_Of_38_3.s.h [.l v0, .i v1, .i v2, .l v3]) (idc Try.prog 0 (L_bag_Of 38) 3) =
    (rd_bag_Of_38_3 [.l v0, .i v1, .i v2, .l v3]).go br (fun us' => some (.normal, sp_bag_Of_38_3.s.ts sp_bag_Of_38_3.n us', sp_bag_Of_38_3.s.h us')) sp_bag_Of_38_3.fin := by
  rw [← callF_eq, ← runF_eq]; kernel_rfl
theorem lo_bag_Of_38_3 {R : Type} : LoopTells Try.prog X116 M_bag_Of L_bag_Of 0 (L_bag_Of 38) (bodyOf Try.prog 38 3) (gL (R := R) sp_bag_Of_38_3 rd_bag_Of_38_3 br) :=
  loopTold (callK_ev (loopsOK_list rids noneIn) 40) (lsokIn (loopsOK_list rids noneIn) 38 0 3) (by kernel_rfl) sp_bag_Of_38_3 rd_bag_Of_38_3 rfl (by kernel_rfl) (by
    intro us v h; unfold rd_bag_Of_38_3 at h; split at h
    · rename_i v0 v1 v2 v3; exact rq_bag_Of_38_3 v0 v1 v2 v3
    · cases h)
noncomputable abbrev ll_bag_Of_38_3 {R : Type} : List (Nat × Nat × Nat × Smy R) := (38, 0, 3, gL sp_bag_Of_38_3 rd_bag_Of_38_3 br) :: []
theorem lk_bag_Of_38_3 {R : Type} : ∀ e ∈ ll_bag_Of_38_3 (R := R), LoopTells Try.prog X116 M_bag_Of L_bag_Of e.2.1 (L_bag_Of e.1) (bodyOf Try.prog e.1 e.2.2.1) e.2.2.2 := List.forall_mem_cons.2 ⟨lo_bag_Of_38_3, noneIn⟩
def S_bag_Of : FSp := ⟨[.one (.l 26)], [], [109000000], [([.one (.all 0)], [.arr 54 true])]⟩
noncomputable def m_bag_Of : List U → Rt
  | [.l v0] =>
    (let r0 : Rs := (lres rd_bag_Of_38_3 [U.l v0, U.i (ln v0), U.i (0 : Int), U.l []])
    (.test (ok r0 0)
    (.stop 0 [.l []])
    (.test (ok r0 1)
    (let r1 : Rs := (Rt.res (m_bag_Sum [U.l (uL (out r0 1) 0)]))
    (.test (ok r1 0)
    (.stop 0 [.l (uL (out r1 0) 0)])
    .fail))
    .fail)))
  | _ => .fail
set_option maxRecDepth 100000 in
theorem q_bag_Of (v0 : List (List PV)) : callK br Try.prog X116 M_bag_Of L_bag_Of (lsT ll_bag_Of_38_3) 60 38 (encs [.l v0] 0 S_bag_Of.ap) (encH [.l v0] (ws S_bag_Of.ap) S_bag_Of.ah) (fun y => fixR Try.prog S_bag_Of.plan S_bag_Of.ah.length y) =
    (m_bag_Of [.l v0]).go br (fun _ => none) S_bag_Of.fin := by
  rw [← callF_eq]; kernel_rfl
theorem e_bag_Of : EOK Try.prog 38 (gF S_bag_Of m_bag_Of) :=
  eokTold mixed named x116 (loopsOK_list rids lk_bag_Of_38_3) 60 S_bag_Of m_bag_Of (by
    intro us v h; unfold m_bag_Of at h; split at h
    · rename_i v0; exact q_bag_Of v0
    · cases h) false
noncomputable abbrev X117 : Ext := extT [(38, (gF S_bag_Of m_bag_Of))] X116
theorem x117 : XOK Try.prog X117 := xok1 x116 e_bag_Of

/-- levee/rel.Bag -/
def L_rel_Bag : FuncId → Nat → Option (List Nat) := liveT [(24, 5, [53000003, 10, 11, 12]), (24, 1000005, [3]), (24, 2000005, [2])]
def M_rel_Bag : FuncId → Bool := fun _ => false
noncomputable def rd_rel_Bag_24_5 : List U → Rt
  | [.l v0, .i v1, .i v2, .l v3] =>
    (.test (decide (v2 < v1))
    (.test (inR v2 (ln v0))
    (.test (decide ((List.length v3 + 1) * 24 ≤ 140737488355328))
    (.next [.l v0, .i v1, .i (w64 (v2 + (1 : Int))), .l (v3 ++ [[PV.lst 28 (cL (el v0 v2) 0)]])])
    .fail)
    .fail)
    (.stop 0 [.l v3]))
  | _ => .fail
def sp_rel_Bag_24_5 : LSp := ⟨24, ⟨[(3, .one (.all 0)), (10, .one (.l 35)), (11, .one (.i .i64)), (12, .one (.i .i64))], [.arr 26 true]⟩, [(.exit 0, ⟨[(3, .one (.all 0))], [.arr 26 true]⟩)]⟩
set_option maxRecDepth 100000 in
theorem rq_rel_Bag_24_5 (v0 : List (List PV)) (v1 : Int) (v2 : Int) (v3 : List (List PV)) : runK br Try.prog (callK br Try.prog X117 M_rel_Bag L_rel_Bag (lsT []) 40) M_rel_Bag (lsT [] 24 0) 40 0 (L_rel_Bag 24) (bodyOf Try.prog 24 5) (sp_rel_Bag_24_5.s.ts sp_rel_Bag_24_5.n [.l v0, .i v1, .i v2, .l v3]) (sp_rel_Bag_24_5.s.h [.l v0, .i v1, .i v2, .l v3]) (idc Try.prog 0 (L_rel_Bag 24) 5) =
    (rd_rel_Bag_24_5 [.l v0, .i v1, .i v2, .l v3]).go br (fun us' => some (.normal, sp_rel_Bag_24_5.s.ts sp_rel_Bag_24_5.n us', sp_rel_Bag_24_5.s.h us')) sp_rel_Bag_24_5.fin := by
  rw [← callF_eq, ← runF_eq]; kernel_rfl
theorem lo_rel_Bag_24_5 {R : Type} : LoopTells Try.prog X117 M_rel_Bag L_rel_Bag 0 (L_rel_Bag 24) (bodyOf Try.prog 24 5) (gL (R := R) sp_rel_Bag_24_5 rd_rel_Bag_24_5 br) :=
  loopTold (callK_ev (loopsOK_list rids noneIn) 40) (lsokIn (loopsOK_list rids noneIn) 24 0 5) (by kernel_rfl) sp_rel_Bag_24_5 rd_rel_Bag_24_5 rfl (by kernel_rfl) (by
    intro us v h; unfold rd_rel_Bag_24_5 at h; split at h
    · rename_i v0 v1 v2 v3; exact rq_rel_Bag_24_5 v0 v1 v2 v3
    · cases h)
noncomputable abbrev ll_rel_Bag_24_5 {R : Type} : List (Nat × Nat × Nat × Smy R) := (24, 0, 5, gL sp_rel_Bag_24_5 rd_rel_Bag_24_5 br) :: []
theorem lk_rel_Bag_24_5 {R : Type} : ∀ e ∈ ll_rel_Bag_24_5 (R := R), LoopTells Try.prog X117 M_rel_Bag L_rel_Bag e.2.1 (L_rel_Bag e.1) (bodyOf Try.prog e.1 e.2.2.1) e.2.2.2 := List.forall_mem_cons.2 ⟨lo_rel_Bag_24_5, noneIn⟩
def S_rel_Bag : FSp := ⟨[.agg [.s, .l 35]], [], [109000000], [([.one (.all 0)], [.arr 54 true])]⟩
noncomputable def m_rel_Bag : List U → Rt
  | [.s v0, .l v1] =>
    (let r0 : Rs := (Rt.res (m_rel_May [U.s v0, U.l v1]))
    (.test (ok r0 0)
    (.test (!uB (out r0 0) 0)
    (.stop 0 [.l []])
    (let r1 : Rs := (lres rd_rel_Bag_24_5 [U.l v1, U.i (ln v1), U.i (0 : Int), U.l []])
    (.test (ok r1 0)
    (let r2 : Rs := (Rt.res (m_bag_Of [U.l (uL (out r1 0) 0)]))
    (.test (ok r2 0)
    (.stop 0 [.l (uL (out r2 0) 0)])
    .fail))
    .fail)))
    .fail))
  | _ => .fail
set_option maxRecDepth 100000 in
theorem q_rel_Bag (v0 : ByteArray) (v1 : List (List PV)) : callK br Try.prog X117 M_rel_Bag L_rel_Bag (lsT ll_rel_Bag_24_5) 60 24 (encs [.s v0, .l v1] 0 S_rel_Bag.ap) (encH [.s v0, .l v1] (ws S_rel_Bag.ap) S_rel_Bag.ah) (fun y => fixR Try.prog S_rel_Bag.plan S_rel_Bag.ah.length y) =
    (m_rel_Bag [.s v0, .l v1]).go br (fun _ => none) S_rel_Bag.fin := by
  rw [← callF_eq]; kernel_rfl
theorem e_rel_Bag : EOK Try.prog 24 (gF S_rel_Bag m_rel_Bag) :=
  eokTold mixed named x117 (loopsOK_list rids lk_rel_Bag_24_5) 60 S_rel_Bag m_rel_Bag (by
    intro us v h; unfold m_rel_Bag at h; split at h
    · rename_i v0 v1; exact q_rel_Bag v0 v1
    · cases h) false
noncomputable abbrev X118 : Ext := extT [(24, (gF S_rel_Bag m_rel_Bag))] X117
theorem x118 : XOK Try.prog X118 := xok1 x117 e_rel_Bag

/-- levee/leveeref05.Fits -/
def L_R05_Fits : FuncId → Nat → Option (List Nat) := liveT []
def M_R05_Fits : FuncId → Bool := fun _ => false
def S_R05_Fits : FSp := ⟨[.one (.i .i64)], [], [], [([.one (.b)], [])]⟩
noncomputable def m_R05_Fits : List U → Rt
  | [.i v0] =>
    (.test (decide (v0 ≥ (-1000000000 : Int)))
    (.stop 0 [.b (decide (v0 ≤ (1000000000 : Int)))])
    (.stop 0 [.b false]))
  | _ => .fail
set_option maxRecDepth 100000 in
theorem q_R05_Fits (v0 : Int) : callK br Try.prog X118 M_R05_Fits L_R05_Fits (lsT []) 60 55 (encs [.i v0] 0 S_R05_Fits.ap) (encH [.i v0] (ws S_R05_Fits.ap) S_R05_Fits.ah) (fun y => fixR Try.prog S_R05_Fits.plan S_R05_Fits.ah.length y) =
    (m_R05_Fits [.i v0]).go br (fun _ => none) S_R05_Fits.fin := by
  rw [← callF_eq]; kernel_rfl
theorem e_R05_Fits : EOK Try.prog 55 (gF S_R05_Fits m_R05_Fits) :=
  eokTold mixed named x118 (loopsOK_list rids noneIn) 60 S_R05_Fits m_R05_Fits (by
    intro us v h; unfold m_R05_Fits at h; split at h
    · rename_i v0; exact q_R05_Fits v0
    · cases h) false
noncomputable abbrev X119 : Ext := extT [(55, (gF S_R05_Fits m_R05_Fits))] X118
theorem x119 : XOK Try.prog X119 := xok1 x118 e_R05_Fits

/-- levee/leveeref01.May -/
def L_R01_May : FuncId → Nat → Option (List Nat) := liveT []
def M_R01_May : FuncId → Bool := fun _ => false
def S_R01_May : FSp := ⟨[.agg [.i .i64, .i .i64, .s]], [], [], [([.one (.b)], [])]⟩
noncomputable def m_R01_May : List U → Rt
  | [.i v0, .i v1, .s v2] =>
    (.test (v0 == (0 : Int))
    (.test (ByteArray.toList v2 == [])
    (.test (decide (v1 ≥ (0 : Int)))
    (.stop 0 [.b (decide (v1 ≤ v0))])
    (.stop 0 [.b false]))
    (.stop 0 [.b false]))
    (.test (v0 == (1 : Int))
    (.test (ByteArray.toList v2 == [])
    (.test (decide (v1 ≥ (0 : Int)))
    (.stop 0 [.b (decide (v1 ≤ v0))])
    (.stop 0 [.b false]))
    (.stop 0 [.b false]))
    (.test (v0 == (2 : Int))
    (.stop 0 [.b (ByteArray.toList v2 == [])])
    (.test (v0 == (3 : Int))
    (.test (v1 == (0 : Int))
    (.stop 0 [.b (decide ((↑(ByteArray.size v2) : Int) ≤ (1000 : Int)))])
    (.stop 0 [.b false]))
    (.stop 0 [.b false])))))
  | _ => .fail
set_option maxRecDepth 100000 in
theorem q_R01_May (v0 : Int) (v1 : Int) (v2 : ByteArray) : callK br Try.prog X119 M_R01_May L_R01_May (lsT []) 60 68 (encs [.i v0, .i v1, .s v2] 0 S_R01_May.ap) (encH [.i v0, .i v1, .s v2] (ws S_R01_May.ap) S_R01_May.ah) (fun y => fixR Try.prog S_R01_May.plan S_R01_May.ah.length y) =
    (m_R01_May [.i v0, .i v1, .s v2]).go br (fun _ => none) S_R01_May.fin := by
  rw [← callF_eq]; kernel_rfl
theorem e_R01_May : EOK Try.prog 68 (gF S_R01_May m_R01_May) :=
  eokTold mixed named x119 (loopsOK_list rids noneIn) 60 S_R01_May m_R01_May (by
    intro us v h; unfold m_R01_May at h; split at h
    · rename_i v0 v1 v2; exact q_R01_May v0 v1 v2
    · cases h) false
noncomputable abbrev X120 : Ext := extT [(68, (gF S_R01_May m_R01_May))] X119
theorem x120 : XOK Try.prog X120 := xok1 x119 e_R01_May

/-- levee/leveeref02.May -/
def L_R02_May : FuncId → Nat → Option (List Nat) := liveT [(54, 2, [0, 3]), (54, 1000002, []), (54, 2000002, [2])]
def M_R02_May : FuncId → Bool := fun _ => false
noncomputable def rd_R02_May_54_2 : List U → Rt
  | [.l v0, .i v1] =>
    (.test (decide (v1 < ln v0))
    (.test (inR v1 (ln v0))
    (let r0 : Rs := (Rt.res (m_R01_May [U.i (cI (el v0 v1) 0), U.i (cI (el v0 v1) 1), U.s (cS (el v0 v1) 2)]))
    (.test (ok r0 0)
    (.test (!uB (out r0 0) 0)
    (.stop 0 [.b false])
    (.next [.l v0, .i (w64 (v1 + (1 : Int)))]))
    .fail))
    .fail)
    (.stop 1 []))
  | _ => .fail
def sp_R02_May_54_2 : LSp := ⟨16, ⟨[(0, .one (.l 28)), (3, .one (.i .i64))], []⟩, [(.ret, ⟨[(2, .one (.b))], []⟩), (.exit 0, ⟨[], []⟩)]⟩
set_option maxRecDepth 100000 in
theorem rq_R02_May_54_2 (v0 : List (List PV)) (v1 : Int) : runK br Try.prog (callK br Try.prog X120 M_R02_May L_R02_May (lsT []) 40) M_R02_May (lsT [] 54 0) 40 0 (L_R02_May 54) (bodyOf Try.prog 54 2) (sp_R02_May_54_2.s.ts sp_R02_May_54_2.n [.l v0, .i v1]) (sp_R02_May_54_2.s.h [.l v0, .i v1]) (idc Try.prog 0 (L_R02_May 54) 2) =
    (rd_R02_May_54_2 [.l v0, .i v1]).go br (fun us' => some (.normal, sp_R02_May_54_2.s.ts sp_R02_May_54_2.n us', sp_R02_May_54_2.s.h us')) sp_R02_May_54_2.fin := by
  rw [← callF_eq, ← runF_eq]; kernel_rfl
theorem lo_R02_May_54_2 {R : Type} : LoopTells Try.prog X120 M_R02_May L_R02_May 0 (L_R02_May 54) (bodyOf Try.prog 54 2) (gL (R := R) sp_R02_May_54_2 rd_R02_May_54_2 br) :=
  loopTold (callK_ev (loopsOK_list rids noneIn) 40) (lsokIn (loopsOK_list rids noneIn) 54 0 2) (by kernel_rfl) sp_R02_May_54_2 rd_R02_May_54_2 rfl (by kernel_rfl) (by
    intro us v h; unfold rd_R02_May_54_2 at h; split at h
    · rename_i v0 v1; exact rq_R02_May_54_2 v0 v1
    · cases h)
noncomputable abbrev ll_R02_May_54_2 {R : Type} : List (Nat × Nat × Nat × Smy R) := (54, 0, 2, gL sp_R02_May_54_2 rd_R02_May_54_2 br) :: []
theorem lk_R02_May_54_2 {R : Type} : ∀ e ∈ ll_R02_May_54_2 (R := R), LoopTells Try.prog X120 M_R02_May L_R02_May e.2.1 (L_R02_May e.1) (bodyOf Try.prog e.1 e.2.2.1) e.2.2.2 := List.forall_mem_cons.2 ⟨lo_R02_May_54_2, noneIn⟩
def S_R02_May : FSp := ⟨[.one (.l 28)], [], [], [([.one (.b)], [])]⟩
noncomputable def m_R02_May : List U → Rt
  | [.l v0] =>
    (let r0 : Rs := (lres rd_R02_May_54_2 [U.l v0, U.i (0 : Int)])
    (.test (ok r0 0)
    (.stop 0 [.b (uB (out r0 0) 0)])
    (.test (ok r0 1)
    (.stop 0 [.b true])
    .fail)))
  | _ => .fail
set_option maxRecDepth 100000 in
theorem q_R02_May (v0 : List (List PV)) : callK br Try.prog X120 M_R02_May L_R02_May (lsT ll_R02_May_54_2) 60 54 (encs [.l v0] 0 S_R02_May.ap) (encH [.l v0] (ws S_R02_May.ap) S_R02_May.ah) (fun y => fixR Try.prog S_R02_May.plan S_R02_May.ah.length y) =
    (m_R02_May [.l v0]).go br (fun _ => none) S_R02_May.fin := by
  rw [← callF_eq]; kernel_rfl
theorem e_R02_May : EOK Try.prog 54 (gF S_R02_May m_R02_May) :=
  eokTold mixed named x120 (loopsOK_list rids lk_R02_May_54_2) 60 S_R02_May m_R02_May (by
    intro us v h; unfold m_R02_May at h; split at h
    · rename_i v0; exact q_R02_May v0
    · cases h) false
noncomputable abbrev X121 : Ext := extT [(54, (gF S_R02_May m_R02_May))] X120
theorem x121 : XOK Try.prog X121 := xok1 x120 e_R02_May

/-- levee/leveeref04.May -/
def L_R04_May : FuncId → Nat → Option (List Nat) := liveT []
def M_R04_May : FuncId → Bool := fun _ => false
def S_R04_May : FSp := ⟨[.one (.l 28)], [], [], [([.one (.b)], [])]⟩
noncomputable def m_R04_May : List U → Rt
  | [.l v0] =>
    (.test (decide (ln v0 ≤ (40 : Int)))
    (let r0 : Rs := (Rt.res (m_R02_May [U.l v0]))
    (.test (ok r0 0)
    (.stop 0 [.b (uB (out r0 0) 0)])
    .fail))
    (.stop 0 [.b false]))
  | _ => .fail
set_option maxRecDepth 100000 in
theorem q_R04_May (v0 : List (List PV)) : callK br Try.prog X121 M_R04_May L_R04_May (lsT []) 60 40 (encs [.l v0] 0 S_R04_May.ap) (encH [.l v0] (ws S_R04_May.ap) S_R04_May.ah) (fun y => fixR Try.prog S_R04_May.plan S_R04_May.ah.length y) =
    (m_R04_May [.l v0]).go br (fun _ => none) S_R04_May.fin := by
  rw [← callF_eq]; kernel_rfl
theorem e_R04_May : EOK Try.prog 40 (gF S_R04_May m_R04_May) :=
  eokTold mixed named x121 (loopsOK_list rids noneIn) 60 S_R04_May m_R04_May (by
    intro us v h; unfold m_R04_May at h; split at h
    · rename_i v0; exact q_R04_May v0
    · cases h) false
noncomputable abbrev X122 : Ext := extT [(40, (gF S_R04_May m_R04_May))] X121
theorem x122 : XOK Try.prog X122 := xok1 x121 e_R04_May

/-- levee/leveeref01.Compare -/
def L_R01_Compare : FuncId → Nat → Option (List Nat) := liveT []
def M_R01_Compare : FuncId → Bool := fun _ => false
def S_R01_Compare : FSp := ⟨[.agg [.i .i64, .i .i64, .s], .agg [.i .i64, .i .i64, .s]], [], [], [([.one (.i .i64)], [])]⟩
noncomputable def m_R01_Compare : List U → Rt
  | [.i v0, .i v1, .s v2, .i v3, .i v4, .s v5] =>
    (.test (v0 != v3)
    (.test (decide (v0 < v3))
    (.stop 0 [.i ((-1 : Int))])
    (.stop 0 [.i ((1 : Int))]))
    (.test (v1 != v4)
    (.test (decide (v1 < v4))
    (.stop 0 [.i ((-1 : Int))])
    (.stop 0 [.i ((1 : Int))]))
    (.test (Op.bytesLess (ByteArray.toList v2) (ByteArray.toList v5))
    (.stop 0 [.i ((-1 : Int))])
    (.test (!(Op.bytesLess (ByteArray.toList v2) (ByteArray.toList v5) || ByteArray.toList v2 == ByteArray.toList v5))
    (.stop 0 [.i ((1 : Int))])
    (.stop 0 [.i ((0 : Int))])))))
  | _ => .fail
set_option maxRecDepth 100000 in
theorem q_R01_Compare (v0 : Int) (v1 : Int) (v2 : ByteArray) (v3 : Int) (v4 : Int) (v5 : ByteArray) : callK br Try.prog X122 M_R01_Compare L_R01_Compare (lsT []) 60 28 (encs [.i v0, .i v1, .s v2, .i v3, .i v4, .s v5] 0 S_R01_Compare.ap) (encH [.i v0, .i v1, .s v2, .i v3, .i v4, .s v5] (ws S_R01_Compare.ap) S_R01_Compare.ah) (fun y => fixR Try.prog S_R01_Compare.plan S_R01_Compare.ah.length y) =
    (m_R01_Compare [.i v0, .i v1, .s v2, .i v3, .i v4, .s v5]).go br (fun _ => none) S_R01_Compare.fin := by
  rw [← callF_eq]; kernel_rfl
theorem e_R01_Compare : EOK Try.prog 28 (gF S_R01_Compare m_R01_Compare) :=
  eokTold mixed named x122 (loopsOK_list rids noneIn) 60 S_R01_Compare m_R01_Compare (by
    intro us v h; unfold m_R01_Compare at h; split at h
    · rename_i v0 v1 v2 v3 v4 v5; exact q_R01_Compare v0 v1 v2 v3 v4 v5
    · cases h) false
noncomputable abbrev X123 : Ext := extT [(28, (gF S_R01_Compare m_R01_Compare))] X122
theorem x123 : XOK Try.prog X123 := xok1 x122 e_R01_Compare

/-- levee/leveeref02.Compare -/
def L_R02_Compare : FuncId → Nat → Option (List Nat) := liveT [(27, 2, [0, 1, 5]), (27, 1000002, [0, 1]), (27, 2000002, [4])]
def M_R02_Compare : FuncId → Bool := fun _ => false
noncomputable def rd_R02_Compare_27_2 : List U → Rt
  | [.l v0, .l v1, .i v2] =>
    (.test (decide (v2 < ln v0))
    (.test (decide (v2 < ln v1))
    (.test (inR v2 (ln v0))
    (.test (inR v2 (ln v1))
    (let r0 : Rs := (Rt.res (m_R01_Compare [U.i (cI (el v0 v2) 0), U.i (cI (el v0 v2) 1), U.s (cS (el v0 v2) 2), U.i (cI (el v1 v2) 0), U.i (cI (el v1 v2) 1), U.s (cS (el v1 v2) 2)]))
    (.test (ok r0 0)
    (.test (uI (out r0 0) 0 != (0 : Int))
    (.stop 0 [.i (uI (out r0 0) 0)])
    (.next [.l v0, .l v1, .i (w64 (v2 + (1 : Int)))]))
    .fail))
    .fail)
    .fail)
    (.stop 1 [.l v0, .l v1]))
    (.stop 1 [.l v0, .l v1]))
  | _ => .fail
def sp_R02_Compare_27_2 : LSp := ⟨41, ⟨[(0, .one (.l 28)), (1, .one (.l 28)), (5, .one (.i .i64))], []⟩, [(.ret, ⟨[(4, .one (.i .i64))], []⟩), (.exit 0, ⟨[(0, .one (.l 28)), (1, .one (.l 28))], []⟩)]⟩
set_option maxRecDepth 100000 in
theorem rq_R02_Compare_27_2 (v0 : List (List PV)) (v1 : List (List PV)) (v2 : Int) : runK br Try.prog (callK br Try.prog X123 M_R02_Compare L_R02_Compare (lsT []) 40) M_R02_Compare (lsT [] 27 0) 40 0 (L_R02_Compare 27) (bodyOf Try.prog 27 2) (sp_R02_Compare_27_2.s.ts sp_R02_Compare_27_2.n [.l v0, .l v1, .i v2]) (sp_R02_Compare_27_2.s.h [.l v0, .l v1, .i v2]) (idc Try.prog 0 (L_R02_Compare 27) 2) =
    (rd_R02_Compare_27_2 [.l v0, .l v1, .i v2]).go br (fun us' => some (.normal, sp_R02_Compare_27_2.s.ts sp_R02_Compare_27_2.n us', sp_R02_Compare_27_2.s.h us')) sp_R02_Compare_27_2.fin := by
  rw [← callF_eq, ← runF_eq]; kernel_rfl
theorem lo_R02_Compare_27_2 {R : Type} : LoopTells Try.prog X123 M_R02_Compare L_R02_Compare 0 (L_R02_Compare 27) (bodyOf Try.prog 27 2) (gL (R := R) sp_R02_Compare_27_2 rd_R02_Compare_27_2 br) :=
  loopTold (callK_ev (loopsOK_list rids noneIn) 40) (lsokIn (loopsOK_list rids noneIn) 27 0 2) (by kernel_rfl) sp_R02_Compare_27_2 rd_R02_Compare_27_2 rfl (by kernel_rfl) (by
    intro us v h; unfold rd_R02_Compare_27_2 at h; split at h
    · rename_i v0 v1 v2; exact rq_R02_Compare_27_2 v0 v1 v2
    · cases h)
noncomputable abbrev ll_R02_Compare_27_2 {R : Type} : List (Nat × Nat × Nat × Smy R) := (27, 0, 2, gL sp_R02_Compare_27_2 rd_R02_Compare_27_2 br) :: []
theorem lk_R02_Compare_27_2 {R : Type} : ∀ e ∈ ll_R02_Compare_27_2 (R := R), LoopTells Try.prog X123 M_R02_Compare L_R02_Compare e.2.1 (L_R02_Compare e.1) (bodyOf Try.prog e.1 e.2.2.1) e.2.2.2 := List.forall_mem_cons.2 ⟨lo_R02_Compare_27_2, noneIn⟩
def S_R02_Compare : FSp := ⟨[.one (.l 28), .one (.l 28)], [], [], [([.one (.i .i64)], [])]⟩
noncomputable def m_R02_Compare : List U → Rt
  | [.l v0, .l v1] =>
    (let r0 : Rs := (lres rd_R02_Compare_27_2 [U.l v0, U.l v1, U.i (0 : Int)])
    (.test (ok r0 0)
    (.stop 0 [.i (uI (out r0 0) 0)])
    (.test (ok r0 1)
    (.test (decide (ln (uL (out r0 1) 0) < ln (uL (out r0 1) 1)))
    (.stop 0 [.i ((-1 : Int))])
    (.test (decide (ln (uL (out r0 1) 0) > ln (uL (out r0 1) 1)))
    (.stop 0 [.i ((1 : Int))])
    (.stop 0 [.i ((0 : Int))])))
    .fail)))
  | _ => .fail
set_option maxRecDepth 100000 in
theorem q_R02_Compare (v0 : List (List PV)) (v1 : List (List PV)) : callK br Try.prog X123 M_R02_Compare L_R02_Compare (lsT ll_R02_Compare_27_2) 60 27 (encs [.l v0, .l v1] 0 S_R02_Compare.ap) (encH [.l v0, .l v1] (ws S_R02_Compare.ap) S_R02_Compare.ah) (fun y => fixR Try.prog S_R02_Compare.plan S_R02_Compare.ah.length y) =
    (m_R02_Compare [.l v0, .l v1]).go br (fun _ => none) S_R02_Compare.fin := by
  rw [← callF_eq]; kernel_rfl
theorem e_R02_Compare : EOK Try.prog 27 (gF S_R02_Compare m_R02_Compare) :=
  eokTold mixed named x123 (loopsOK_list rids lk_R02_Compare_27_2) 60 S_R02_Compare m_R02_Compare (by
    intro us v h; unfold m_R02_Compare at h; split at h
    · rename_i v0 v1; exact q_R02_Compare v0 v1
    · cases h) false
noncomputable abbrev X124 : Ext := extT [(27, (gF S_R02_Compare m_R02_Compare))] X123
theorem x124 : XOK Try.prog X124 := xok1 x123 e_R02_Compare

/-- levee/leveeref05.May -/
def L_R05_May : FuncId → Nat → Option (List Nat) := liveT [(41, 2, [0, 3]), (41, 1000002, []), (41, 2000002, [2])]
def M_R05_May : FuncId → Bool := fun _ => false
noncomputable def rd_R05_May_41_2 : List U → Rt
  | [.l v0, .i v1] =>
    (.test (decide (v1 < ln v0))
    (.test (inR v1 (ln v0))
    (.test (cI (el v0 v1) 1 == (0 : Int))
    (.stop 0 [.b false])
    (.test (inR v1 (ln v0))
    (let r0 : Rs := (Rt.res (m_R05_Fits [U.i (cI (el v0 v1) 1)]))
    (.test (ok r0 0)
    (.test (!uB (out r0 0) 0)
    (.stop 0 [.b false])
    (.test (inR v1 (ln v0))
    (let r1 : Rs := (Rt.res (m_R04_May [U.l (cL (el v0 v1) 0)]))
    (.test (ok r1 0)
    (.test (!uB (out r1 0) 0)
    (.stop 0 [.b false])
    (.test (decide (v1 > (0 : Int)))
    (.test (inR (w64 (v1 - (1 : Int))) (ln v0))
    (.test (inR v1 (ln v0))
    (let r2 : Rs := (Rt.res (m_R02_Compare [U.l (cL (el v0 (w64 (v1 - (1 : Int)))) 0), U.l (cL (el v0 v1) 0)]))
    (.test (ok r2 0)
    (.test (decide (uI (out r2 0) 0 ≥ (0 : Int)))
    (.stop 0 [.b false])
    (.next [.l v0, .i (w64 (v1 + (1 : Int)))]))
    .fail))
    .fail)
    .fail)
    (.next [.l v0, .i (w64 (v1 + (1 : Int)))])))
    .fail))
    .fail))
    .fail))
    .fail))
    .fail)
    (.stop 1 []))
  | _ => .fail
def sp_R05_May_41_2 : LSp := ⟨53, ⟨[(0, .one (.l 54)), (3, .one (.i .i64))], []⟩, [(.ret, ⟨[(2, .one (.b))], []⟩), (.exit 0, ⟨[], []⟩)]⟩
set_option maxRecDepth 100000 in
theorem rq_R05_May_41_2 (v0 : List (List PV)) (v1 : Int) : runK br Try.prog (callK br Try.prog X124 M_R05_May L_R05_May (lsT []) 40) M_R05_May (lsT [] 41 0) 40 0 (L_R05_May 41) (bodyOf Try.prog 41 2) (sp_R05_May_41_2.s.ts sp_R05_May_41_2.n [.l v0, .i v1]) (sp_R05_May_41_2.s.h [.l v0, .i v1]) (idc Try.prog 0 (L_R05_May 41) 2) =
    (rd_R05_May_41_2 [.l v0, .i v1]).go br (fun us' => some (.normal, sp_R05_May_41_2.s.ts sp_R05_May_41_2.n us', sp_R05_May_41_2.s.h us')) sp_R05_May_41_2.fin := by
  rw [← callF_eq, ← runF_eq]; kernel_rfl
theorem lo_R05_May_41_2 {R : Type} : LoopTells Try.prog X124 M_R05_May L_R05_May 0 (L_R05_May 41) (bodyOf Try.prog 41 2) (gL (R := R) sp_R05_May_41_2 rd_R05_May_41_2 br) :=
  loopTold (callK_ev (loopsOK_list rids noneIn) 40) (lsokIn (loopsOK_list rids noneIn) 41 0 2) (by kernel_rfl) sp_R05_May_41_2 rd_R05_May_41_2 rfl (by kernel_rfl) (by
    intro us v h; unfold rd_R05_May_41_2 at h; split at h
    · rename_i v0 v1; exact rq_R05_May_41_2 v0 v1
    · cases h)
noncomputable abbrev ll_R05_May_41_2 {R : Type} : List (Nat × Nat × Nat × Smy R) := (41, 0, 2, gL sp_R05_May_41_2 rd_R05_May_41_2 br) :: []
theorem lk_R05_May_41_2 {R : Type} : ∀ e ∈ ll_R05_May_41_2 (R := R), LoopTells Try.prog X124 M_R05_May L_R05_May e.2.1 (L_R05_May e.1) (bodyOf Try.prog e.1 e.2.2.1) e.2.2.2 := List.forall_mem_cons.2 ⟨lo_R05_May_41_2, noneIn⟩
def S_R05_May : FSp := ⟨[.one (.l 54)], [], [], [([.one (.b)], [])]⟩
noncomputable def m_R05_May : List U → Rt
  | [.l v0] =>
    (let r0 : Rs := (lres rd_R05_May_41_2 [U.l v0, U.i (0 : Int)])
    (.test (ok r0 0)
    (.stop 0 [.b (uB (out r0 0) 0)])
    (.test (ok r0 1)
    (.stop 0 [.b true])
    .fail)))
  | _ => .fail
set_option maxRecDepth 100000 in
theorem q_R05_May (v0 : List (List PV)) : callK br Try.prog X124 M_R05_May L_R05_May (lsT ll_R05_May_41_2) 60 41 (encs [.l v0] 0 S_R05_May.ap) (encH [.l v0] (ws S_R05_May.ap) S_R05_May.ah) (fun y => fixR Try.prog S_R05_May.plan S_R05_May.ah.length y) =
    (m_R05_May [.l v0]).go br (fun _ => none) S_R05_May.fin := by
  rw [← callF_eq]; kernel_rfl
theorem e_R05_May : EOK Try.prog 41 (gF S_R05_May m_R05_May) :=
  eokTold mixed named x124 (loopsOK_list rids lk_R05_May_41_2) 60 S_R05_May m_R05_May (by
    intro us v h; unfold m_R05_May at h; split at h
    · rename_i v0; exact q_R05_May v0
    · cases h) false
noncomputable abbrev X125 : Ext := extT [(41, (gF S_R05_May m_R05_May))] X124
theorem x125 : XOK Try.prog X125 := xok1 x124 e_R05_May

/-- levee/leveeref01.Digits -/
def L_R01_Digits : FuncId → Nat → Option (List Nat) := liveT [(57, 2, [0, 3]), (57, 1000002, [0, 3]), (57, 2000002, [2])]
def M_R01_Digits : FuncId → Bool := fun _ => false
noncomputable def rd_R01_Digits_57_2 : List U → Rt
  | [.i v0, .s v1] =>
    (.test (decide (v0 > (9 : Int)))
    (.test (decide ((0 : Int) ≤ Int.tmod v0 (10 : Int) ∧ Int.tmod v0 (10 : Int) ≤ IntKind.wrap IntKind.u64 (Int.tmod v0 (10 : Int) + (1 : Int)) ∧ IntKind.wrap IntKind.u64 (Int.tmod v0 (10 : Int) + (1 : Int)) ≤ (10 : Int)))
    (.test (decide (ByteArray.size (ByteArray.extract { data := #[(48 : UInt8), (49 : UInt8), (50 : UInt8), (51 : UInt8), (52 : UInt8), (53 : UInt8), (54 : UInt8), (55 : UInt8), (56 : UInt8), (57 : UInt8)] } (Int.toNat (Int.tmod v0 (10 : Int))) (Int.toNat (IntKind.wrap IntKind.u64 (Int.tmod v0 (10 : Int) + (1 : Int))))) + ByteArray.size v1 ≤ 9223372036854775807))
    (.next [.i (IntKind.wrap IntKind.u64 (Int.tdiv v0 (10 : Int))), .s (ByteArray.extract { data := #[(48 : UInt8), (49 : UInt8), (50 : UInt8), (51 : UInt8), (52 : UInt8), (53 : UInt8), (54 : UInt8), (55 : UInt8), (56 : UInt8), (57 : UInt8)] } (Int.toNat (Int.tmod v0 (10 : Int))) (Int.toNat (IntKind.wrap IntKind.u64 (Int.tmod v0 (10 : Int) + (1 : Int)))) ++ v1)])
    .fail)
    .fail)
    (.stop 0 [.i v0, .s v1]))
  | _ => .fail
def sp_R01_Digits_57_2 : LSp := ⟨22, ⟨[(0, .one (.i .u64)), (3, .one (.s))], []⟩, [(.exit 0, ⟨[(0, .one (.i .u64)), (3, .one (.s))], []⟩)]⟩
set_option maxRecDepth 100000 in
theorem rq_R01_Digits_57_2 (v0 : Int) (v1 : ByteArray) : runK br Try.prog (callK br Try.prog X125 M_R01_Digits L_R01_Digits (lsT []) 40) M_R01_Digits (lsT [] 57 0) 40 0 (L_R01_Digits 57) (bodyOf Try.prog 57 2) (sp_R01_Digits_57_2.s.ts sp_R01_Digits_57_2.n [.i v0, .s v1]) (sp_R01_Digits_57_2.s.h [.i v0, .s v1]) (idc Try.prog 0 (L_R01_Digits 57) 2) =
    (rd_R01_Digits_57_2 [.i v0, .s v1]).go br (fun us' => some (.normal, sp_R01_Digits_57_2.s.ts sp_R01_Digits_57_2.n us', sp_R01_Digits_57_2.s.h us')) sp_R01_Digits_57_2.fin := by
  rw [← callF_eq, ← runF_eq]; kernel_rfl
theorem lo_R01_Digits_57_2 {R : Type} : LoopTells Try.prog X125 M_R01_Digits L_R01_Digits 0 (L_R01_Digits 57) (bodyOf Try.prog 57 2) (gL (R := R) sp_R01_Digits_57_2 rd_R01_Digits_57_2 br) :=
  loopTold (callK_ev (loopsOK_list rids noneIn) 40) (lsokIn (loopsOK_list rids noneIn) 57 0 2) (by kernel_rfl) sp_R01_Digits_57_2 rd_R01_Digits_57_2 rfl (by kernel_rfl) (by
    intro us v h; unfold rd_R01_Digits_57_2 at h; split at h
    · rename_i v0 v1; exact rq_R01_Digits_57_2 v0 v1
    · cases h)
noncomputable abbrev ll_R01_Digits_57_2 {R : Type} : List (Nat × Nat × Nat × Smy R) := (57, 0, 2, gL sp_R01_Digits_57_2 rd_R01_Digits_57_2 br) :: []
theorem lk_R01_Digits_57_2 {R : Type} : ∀ e ∈ ll_R01_Digits_57_2 (R := R), LoopTells Try.prog X125 M_R01_Digits L_R01_Digits e.2.1 (L_R01_Digits e.1) (bodyOf Try.prog e.1 e.2.2.1) e.2.2.2 := List.forall_mem_cons.2 ⟨lo_R01_Digits_57_2, noneIn⟩
def S_R01_Digits : FSp := ⟨[.one (.i .u64)], [], [], [([.one (.s)], [])]⟩
noncomputable def m_R01_Digits : List U → Rt
  | [.i v0] =>
    (let r0 : Rs := (lres rd_R01_Digits_57_2 [U.i v0, U.s { data := #[] }])
    (.test (ok r0 0)
    (.test (decide ((0 : Int) ≤ uI (out r0 0) 0 ∧ uI (out r0 0) 0 ≤ IntKind.wrap IntKind.u64 (uI (out r0 0) 0 + (1 : Int)) ∧ IntKind.wrap IntKind.u64 (uI (out r0 0) 0 + (1 : Int)) ≤ (10 : Int)))
    (.test (decide (ByteArray.size (ByteArray.extract { data := #[(48 : UInt8), (49 : UInt8), (50 : UInt8), (51 : UInt8), (52 : UInt8), (53 : UInt8), (54 : UInt8), (55 : UInt8), (56 : UInt8), (57 : UInt8)] } (Int.toNat (uI (out r0 0) 0)) (Int.toNat (IntKind.wrap IntKind.u64 (uI (out r0 0) 0 + (1 : Int))))) + ByteArray.size (uS (out r0 0) 1) ≤ 9223372036854775807))
    (.stop 0 [.s (ByteArray.extract { data := #[(48 : UInt8), (49 : UInt8), (50 : UInt8), (51 : UInt8), (52 : UInt8), (53 : UInt8), (54 : UInt8), (55 : UInt8), (56 : UInt8), (57 : UInt8)] } (Int.toNat (uI (out r0 0) 0)) (Int.toNat (IntKind.wrap IntKind.u64 (uI (out r0 0) 0 + (1 : Int)))) ++ uS (out r0 0) 1)])
    .fail)
    .fail)
    .fail))
  | _ => .fail
set_option maxRecDepth 100000 in
theorem q_R01_Digits (v0 : Int) : callK br Try.prog X125 M_R01_Digits L_R01_Digits (lsT ll_R01_Digits_57_2) 60 57 (encs [.i v0] 0 S_R01_Digits.ap) (encH [.i v0] (ws S_R01_Digits.ap) S_R01_Digits.ah) (fun y => fixR Try.prog S_R01_Digits.plan S_R01_Digits.ah.length y) =
    (m_R01_Digits [.i v0]).go br (fun _ => none) S_R01_Digits.fin := by
  rw [← callF_eq]; kernel_rfl
theorem e_R01_Digits : EOK Try.prog 57 (gF S_R01_Digits m_R01_Digits) :=
  eokTold mixed named x125 (loopsOK_list rids lk_R01_Digits_57_2) 60 S_R01_Digits m_R01_Digits (by
    intro us v h; unfold m_R01_Digits at h; split at h
    · rename_i v0; exact q_R01_Digits v0
    · cases h) false
noncomputable abbrev X126 : Ext := extT [(57, (gF S_R01_Digits m_R01_Digits))] X125
theorem x126 : XOK Try.prog X126 := xok1 x125 e_R01_Digits

/-- levee/leveeref01.Signed -/
def L_R01_Signed : FuncId → Nat → Option (List Nat) := liveT []
def M_R01_Signed : FuncId → Bool := fun _ => false
def S_R01_Signed : FSp := ⟨[.one (.i .i64)], [], [], [([.one (.s)], [])]⟩
noncomputable def m_R01_Signed : List U → Rt
  | [.i v0] =>
    (.test (decide (v0 < (0 : Int)))
    (let r0 : Rs := (Rt.res (m_R01_Digits [U.i (IntKind.wrap IntKind.u64 (IntKind.wrap IntKind.u64 (w64 ((0 : Int) - w64 (v0 + (1 : Int)))) + (1 : Int)))]))
    (.test (ok r0 0)
    (.test (decide (1 + ByteArray.size (uS (out r0 0) 0) ≤ 9223372036854775807))
    (.stop 0 [.s ({ data := #[(45 : UInt8)] } ++ uS (out r0 0) 0)])
    .fail)
    .fail))
    (let r1 : Rs := (Rt.res (m_R01_Digits [U.i (IntKind.wrap IntKind.u64 v0)]))
    (.test (ok r1 0)
    (.stop 0 [.s (uS (out r1 0) 0)])
    .fail)))
  | _ => .fail
set_option maxRecDepth 100000 in
theorem q_R01_Signed (v0 : Int) : callK br Try.prog X126 M_R01_Signed L_R01_Signed (lsT []) 60 43 (encs [.i v0] 0 S_R01_Signed.ap) (encH [.i v0] (ws S_R01_Signed.ap) S_R01_Signed.ah) (fun y => fixR Try.prog S_R01_Signed.plan S_R01_Signed.ah.length y) =
    (m_R01_Signed [.i v0]).go br (fun _ => none) S_R01_Signed.fin := by
  rw [← callF_eq]; kernel_rfl
theorem e_R01_Signed : EOK Try.prog 43 (gF S_R01_Signed m_R01_Signed) :=
  eokTold mixed named x126 (loopsOK_list rids noneIn) 60 S_R01_Signed m_R01_Signed (by
    intro us v h; unfold m_R01_Signed at h; split at h
    · rename_i v0; exact q_R01_Signed v0
    · cases h) false
noncomputable abbrev X127 : Ext := extT [(43, (gF S_R01_Signed m_R01_Signed))] X126
theorem x127 : XOK Try.prog X127 := xok1 x126 e_R01_Signed

/-- levee/leveeref01.Text -/
def L_R01_Text : FuncId → Nat → Option (List Nat) := liveT [(56, 13, [1, 3, 4]), (56, 1000013, [3]), (56, 2000013, [2])]
def M_R01_Text : FuncId → Bool := fun _ => false
noncomputable def rd_R01_Text_56_13 : List U → Rt
  | [.s v0, .i v1, .i v2, .i v3, .s v4] =>
    (.test (decide (v1 < (↑(ByteArray.size v4) : Int)))
    (.test (inR v1 (↑(ByteArray.size v4) : Int))
    (.test ((↑(UInt8.toNat (List.getD (Array.toList (ByteArray.data v4)) (Int.toNat v1) (0 : UInt8))) : Int) == (39 : Int))
    (.test (decide (ByteArray.size v0 + 1 ≤ 9223372036854775807))
    (.test (decide ((0 : Int) ≤ v1 ∧ v1 ≤ w64 (v1 + (1 : Int)) ∧ w64 (v1 + (1 : Int)) ≤ (↑(ByteArray.size v4) : Int)))
    (.test (decide (ByteArray.size (v0 ++ { data := #[(39 : UInt8)] }) + ByteArray.size (ByteArray.extract v4 (Int.toNat v1) (Int.toNat (w64 (v1 + (1 : Int))))) ≤ 9223372036854775807))
    (.next [.s (v0 ++ { data := #[(39 : UInt8)] } ++ ByteArray.extract v4 (Int.toNat v1) (Int.toNat (w64 (v1 + (1 : Int))))), .i (w64 (v1 + (1 : Int))), .i v2, .i v3, .s v4])
    .fail)
    .fail)
    .fail)
    (.test (decide ((0 : Int) ≤ v1 ∧ v1 ≤ w64 (v1 + (1 : Int)) ∧ w64 (v1 + (1 : Int)) ≤ (↑(ByteArray.size v4) : Int)))
    (.test (decide (ByteArray.size v0 + ByteArray.size (ByteArray.extract v4 (Int.toNat v1) (Int.toNat (w64 (v1 + (1 : Int))))) ≤ 9223372036854775807))
    (.next [.s (v0 ++ ByteArray.extract v4 (Int.toNat v1) (Int.toNat (w64 (v1 + (1 : Int))))), .i (w64 (v1 + (1 : Int))), .i v2, .i v3, .s v4])
    .fail)
    .fail))
    .fail)
    (.stop 0 [.s v0]))
  | _ => .fail
def sp_R01_Text_56_13 : LSp := ⟨45, ⟨[(1, .one (.ptr 0 0)), (3, .one (.s)), (4, .one (.i .i64))], [.box 28 [.one (.i .i64), .one (.i .i64), .one (.s)]]⟩, [(.exit 1, ⟨[(3, .one (.s))], []⟩)]⟩
set_option maxRecDepth 100000 in
theorem rq_R01_Text_56_13 (v0 : ByteArray) (v1 : Int) (v2 : Int) (v3 : Int) (v4 : ByteArray) : runK br Try.prog (callK br Try.prog X127 M_R01_Text L_R01_Text (lsT []) 40) M_R01_Text (lsT [] 56 0) 40 0 (L_R01_Text 56) (bodyOf Try.prog 56 13) (sp_R01_Text_56_13.s.ts sp_R01_Text_56_13.n [.s v0, .i v1, .i v2, .i v3, .s v4]) (sp_R01_Text_56_13.s.h [.s v0, .i v1, .i v2, .i v3, .s v4]) (idc Try.prog 0 (L_R01_Text 56) 13) =
    (rd_R01_Text_56_13 [.s v0, .i v1, .i v2, .i v3, .s v4]).go br (fun us' => some (.normal, sp_R01_Text_56_13.s.ts sp_R01_Text_56_13.n us', sp_R01_Text_56_13.s.h us')) sp_R01_Text_56_13.fin := by
  rw [← callF_eq, ← runF_eq]; kernel_rfl
theorem lo_R01_Text_56_13 {R : Type} : LoopTells Try.prog X127 M_R01_Text L_R01_Text 0 (L_R01_Text 56) (bodyOf Try.prog 56 13) (gL (R := R) sp_R01_Text_56_13 rd_R01_Text_56_13 br) :=
  loopTold (callK_ev (loopsOK_list rids noneIn) 40) (lsokIn (loopsOK_list rids noneIn) 56 0 13) (by kernel_rfl) sp_R01_Text_56_13 rd_R01_Text_56_13 rfl (by kernel_rfl) (by
    intro us v h; unfold rd_R01_Text_56_13 at h; split at h
    · rename_i v0 v1 v2 v3 v4; exact rq_R01_Text_56_13 v0 v1 v2 v3 v4
    · cases h)
noncomputable abbrev ll_R01_Text_56_13 {R : Type} : List (Nat × Nat × Nat × Smy R) := (56, 0, 13, gL sp_R01_Text_56_13 rd_R01_Text_56_13 br) :: []
theorem lk_R01_Text_56_13 {R : Type} : ∀ e ∈ ll_R01_Text_56_13 (R := R), LoopTells Try.prog X127 M_R01_Text L_R01_Text e.2.1 (L_R01_Text e.1) (bodyOf Try.prog e.1 e.2.2.1) e.2.2.2 := List.forall_mem_cons.2 ⟨lo_R01_Text_56_13, noneIn⟩
def S_R01_Text : FSp := ⟨[.agg [.i .i64, .i .i64, .s]], [], [], [([.one (.s)], [])]⟩
noncomputable def m_R01_Text : List U → Rt
  | [.i v0, .i v1, .s v2] =>
    (.test (v0 == (0 : Int))
    (.stop 0 [.s ({ data := #[(110 : UInt8), (117 : UInt8), (108 : UInt8), (108 : UInt8)] })])
    (.test (v0 == (1 : Int))
    (.test (v1 == (0 : Int))
    (.stop 0 [.s ({ data := #[(102 : UInt8), (97 : UInt8), (108 : UInt8), (115 : UInt8), (101 : UInt8)] })])
    (.stop 0 [.s ({ data := #[(116 : UInt8), (114 : UInt8), (117 : UInt8), (101 : UInt8)] })]))
    (.test (v0 == (2 : Int))
    (let r0 : Rs := (Rt.res (m_R01_Signed [U.i v1]))
    (.test (ok r0 0)
    (.stop 0 [.s (uS (out r0 0) 0)])
    .fail))
    (.test (v0 == (3 : Int))
    (let r1 : Rs := (lres rd_R01_Text_56_13 [U.s { data := #[(39 : UInt8)] }, U.i (0 : Int), U.i v0, U.i v1, U.s v2])
    (.test (ok r1 0)
    (.test (decide (ByteArray.size (uS (out r1 0) 0) + 1 ≤ 9223372036854775807))
    (.stop 0 [.s (uS (out r1 0) 0 ++ { data := #[(39 : UInt8)] })])
    .fail)
    .fail))
    (.stop 0 [.s ({ data := #[(63 : UInt8)] })])))))
  | _ => .fail
set_option maxRecDepth 100000 in
theorem q_R01_Text (v0 : Int) (v1 : Int) (v2 : ByteArray) : callK br Try.prog X127 M_R01_Text L_R01_Text (lsT ll_R01_Text_56_13) 60 56 (encs [.i v0, .i v1, .s v2] 0 S_R01_Text.ap) (encH [.i v0, .i v1, .s v2] (ws S_R01_Text.ap) S_R01_Text.ah) (fun y => fixR Try.prog S_R01_Text.plan S_R01_Text.ah.length y) =
    (m_R01_Text [.i v0, .i v1, .s v2]).go br (fun _ => none) S_R01_Text.fin := by
  rw [← callF_eq]; kernel_rfl
theorem e_R01_Text : EOK Try.prog 56 (gF S_R01_Text m_R01_Text) :=
  eokTold mixed named x127 (loopsOK_list rids lk_R01_Text_56_13) 60 S_R01_Text m_R01_Text (by
    intro us v h; unfold m_R01_Text at h; split at h
    · rename_i v0 v1 v2; exact q_R01_Text v0 v1 v2
    · cases h) false
noncomputable abbrev X128 : Ext := extT [(56, (gF S_R01_Text m_R01_Text))] X127
theorem x128 : XOK Try.prog X128 := xok1 x127 e_R01_Text

/-- levee/leveeref04.Text -/
def L_R04_Text : FuncId → Nat → Option (List Nat) := liveT [(42, 3, [0, 3, 4]), (42, 1000003, [3]), (42, 2000003, [2])]
def M_R04_Text : FuncId → Bool := fun _ => false
noncomputable def rd_R04_Text_42_3 : List U → Rt
  | [.l v0, .s v1, .i v2] =>
    (.test (decide (v2 < ln v0))
    (.test (decide (v2 > (0 : Int)))
    (.test (decide (ByteArray.size v1 + 2 ≤ 9223372036854775807))
    (.test (inR v2 (ln v0))
    (let r0 : Rs := (Rt.res (m_R01_Text [U.i (cI (el v0 v2) 0), U.i (cI (el v0 v2) 1), U.s (cS (el v0 v2) 2)]))
    (.test (ok r0 0)
    (.test (decide (ByteArray.size (v1 ++ { data := #[(44 : UInt8), (32 : UInt8)] }) + ByteArray.size (uS (out r0 0) 0) ≤ 9223372036854775807))
    (.next [.l v0, .s (v1 ++ { data := #[(44 : UInt8), (32 : UInt8)] } ++ uS (out r0 0) 0), .i (w64 (v2 + (1 : Int)))])
    .fail)
    .fail))
    .fail)
    .fail)
    (.test (inR v2 (ln v0))
    (let r1 : Rs := (Rt.res (m_R01_Text [U.i (cI (el v0 v2) 0), U.i (cI (el v0 v2) 1), U.s (cS (el v0 v2) 2)]))
    (.test (ok r1 0)
    (.test (decide (ByteArray.size v1 + ByteArray.size (uS (out r1 0) 0) ≤ 9223372036854775807))
    (.next [.l v0, .s (v1 ++ uS (out r1 0) 0), .i (w64 (v2 + (1 : Int)))])
    .fail)
    .fail))
    .fail))
    (.stop 0 [.s v1]))
  | _ => .fail
def sp_R04_Text_42_3 : LSp := ⟨24, ⟨[(0, .one (.l 28)), (3, .one (.s)), (4, .one (.i .i64))], []⟩, [(.exit 0, ⟨[(3, .one (.s))], []⟩)]⟩
set_option maxRecDepth 100000 in
theorem rq_R04_Text_42_3 (v0 : List (List PV)) (v1 : ByteArray) (v2 : Int) : runK br Try.prog (callK br Try.prog X128 M_R04_Text L_R04_Text (lsT []) 40) M_R04_Text (lsT [] 42 0) 40 0 (L_R04_Text 42) (bodyOf Try.prog 42 3) (sp_R04_Text_42_3.s.ts sp_R04_Text_42_3.n [.l v0, .s v1, .i v2]) (sp_R04_Text_42_3.s.h [.l v0, .s v1, .i v2]) (idc Try.prog 0 (L_R04_Text 42) 3) =
    (rd_R04_Text_42_3 [.l v0, .s v1, .i v2]).go br (fun us' => some (.normal, sp_R04_Text_42_3.s.ts sp_R04_Text_42_3.n us', sp_R04_Text_42_3.s.h us')) sp_R04_Text_42_3.fin := by
  rw [← callF_eq, ← runF_eq]; kernel_rfl
theorem lo_R04_Text_42_3 {R : Type} : LoopTells Try.prog X128 M_R04_Text L_R04_Text 0 (L_R04_Text 42) (bodyOf Try.prog 42 3) (gL (R := R) sp_R04_Text_42_3 rd_R04_Text_42_3 br) :=
  loopTold (callK_ev (loopsOK_list rids noneIn) 40) (lsokIn (loopsOK_list rids noneIn) 42 0 3) (by kernel_rfl) sp_R04_Text_42_3 rd_R04_Text_42_3 rfl (by kernel_rfl) (by
    intro us v h; unfold rd_R04_Text_42_3 at h; split at h
    · rename_i v0 v1 v2; exact rq_R04_Text_42_3 v0 v1 v2
    · cases h)
noncomputable abbrev ll_R04_Text_42_3 {R : Type} : List (Nat × Nat × Nat × Smy R) := (42, 0, 3, gL sp_R04_Text_42_3 rd_R04_Text_42_3 br) :: []
theorem lk_R04_Text_42_3 {R : Type} : ∀ e ∈ ll_R04_Text_42_3 (R := R), LoopTells Try.prog X128 M_R04_Text L_R04_Text e.2.1 (L_R04_Text e.1) (bodyOf Try.prog e.1 e.2.2.1) e.2.2.2 := List.forall_mem_cons.2 ⟨lo_R04_Text_42_3, noneIn⟩
def S_R04_Text : FSp := ⟨[.one (.l 28)], [], [], [([.one (.s)], [])]⟩
noncomputable def m_R04_Text : List U → Rt
  | [.l v0] =>
    (let r0 : Rs := (lres rd_R04_Text_42_3 [U.l v0, U.s { data := #[(40 : UInt8)] }, U.i (0 : Int)])
    (.test (ok r0 0)
    (.test (decide (ByteArray.size (uS (out r0 0) 0) + 1 ≤ 9223372036854775807))
    (.stop 0 [.s (uS (out r0 0) 0 ++ { data := #[(41 : UInt8)] })])
    .fail)
    .fail))
  | _ => .fail
set_option maxRecDepth 100000 in
theorem q_R04_Text (v0 : List (List PV)) : callK br Try.prog X128 M_R04_Text L_R04_Text (lsT ll_R04_Text_42_3) 60 42 (encs [.l v0] 0 S_R04_Text.ap) (encH [.l v0] (ws S_R04_Text.ap) S_R04_Text.ah) (fun y => fixR Try.prog S_R04_Text.plan S_R04_Text.ah.length y) =
    (m_R04_Text [.l v0]).go br (fun _ => none) S_R04_Text.fin := by
  rw [← callF_eq]; kernel_rfl
theorem e_R04_Text : EOK Try.prog 42 (gF S_R04_Text m_R04_Text) :=
  eokTold mixed named x128 (loopsOK_list rids lk_R04_Text_42_3) 60 S_R04_Text m_R04_Text (by
    intro us v h; unfold m_R04_Text at h; split at h
    · rename_i v0; exact q_R04_Text v0
    · cases h) false
noncomputable abbrev X129 : Ext := extT [(42, (gF S_R04_Text m_R04_Text))] X128
theorem x129 : XOK Try.prog X129 := xok1 x128 e_R04_Text

/-- levee/leveeref05.Text -/
def L_R05_Text : FuncId → Nat → Option (List Nat) := liveT [(30, 3, [0, 3, 4]), (30, 1000003, [3]), (30, 2000003, [2])]
def M_R05_Text : FuncId → Bool := fun _ => false
noncomputable def rd_R05_Text_30_3 : List U → Rt
  | [.l v0, .s v1, .i v2] =>
    (.test (decide (v2 < ln v0))
    (let r0 : Rs := (Rt.res (m_R05_May [U.l v0]))
    (.test (ok r0 0)
    (.test (uB (out r0 0) 0)
    (.test (decide (v2 > (0 : Int)))
    (.test (decide (ByteArray.size v1 + 1 ≤ 9223372036854775807))
    (.test (inR v2 (ln v0))
    (let r1 : Rs := (Rt.res (m_R04_Text [U.l (cL (el v0 v2) 0)]))
    (.test (ok r1 0)
    (.test (decide (ByteArray.size (v1 ++ { data := #[(32 : UInt8)] }) + ByteArray.size (uS (out r1 0) 0) ≤ 9223372036854775807))
    (.test (inR v2 (ln v0))
    (.test (cI (el v0 v2) 1 != (1 : Int))
    (.test (inR v2 (ln v0))
    (let r2 : Rs := (Rt.res (m_R01_Signed [U.i (cI (el v0 v2) 1)]))
    (.test (ok r2 0)
    (.test (decide (1 + ByteArray.size (uS (out r2 0) 0) ≤ 9223372036854775807))
    (.test (decide (ByteArray.size (v1 ++ { data := #[(32 : UInt8)] } ++ uS (out r1 0) 0) + ByteArray.size ({ data := #[(42 : UInt8)] } ++ uS (out r2 0) 0) ≤ 9223372036854775807))
    (.next [.l v0, .s (v1 ++ { data := #[(32 : UInt8)] } ++ uS (out r1 0) 0 ++ ({ data := #[(42 : UInt8)] } ++ uS (out r2 0) 0)), .i (w64 (v2 + (1 : Int)))])
    .fail)
    .fail)
    .fail))
    .fail)
    (.next [.l v0, .s (v1 ++ { data := #[(32 : UInt8)] } ++ uS (out r1 0) 0), .i (w64 (v2 + (1 : Int)))]))
    .fail)
    .fail)
    .fail))
    .fail)
    .fail)
    (.test (inR v2 (ln v0))
    (let r3 : Rs := (Rt.res (m_R04_Text [U.l (cL (el v0 v2) 0)]))
    (.test (ok r3 0)
    (.test (decide (ByteArray.size v1 + ByteArray.size (uS (out r3 0) 0) ≤ 9223372036854775807))
    (.test (inR v2 (ln v0))
    (.test (cI (el v0 v2) 1 != (1 : Int))
    (.test (inR v2 (ln v0))
    (let r4 : Rs := (Rt.res (m_R01_Signed [U.i (cI (el v0 v2) 1)]))
    (.test (ok r4 0)
    (.test (decide (1 + ByteArray.size (uS (out r4 0) 0) ≤ 9223372036854775807))
    (.test (decide (ByteArray.size (v1 ++ uS (out r3 0) 0) + ByteArray.size ({ data := #[(42 : UInt8)] } ++ uS (out r4 0) 0) ≤ 9223372036854775807))
    (.next [.l v0, .s (v1 ++ uS (out r3 0) 0 ++ ({ data := #[(42 : UInt8)] } ++ uS (out r4 0) 0)), .i (w64 (v2 + (1 : Int)))])
    .fail)
    .fail)
    .fail))
    .fail)
    (.next [.l v0, .s (v1 ++ uS (out r3 0) 0), .i (w64 (v2 + (1 : Int)))]))
    .fail)
    .fail)
    .fail))
    .fail))
    (.stop 0 [.s v1]))
    .fail))
    (.stop 0 [.s v1]))
  | _ => .fail
def sp_R05_Text_30_3 : LSp := ⟨43, ⟨[(0, .one (.l 54)), (3, .one (.s)), (4, .one (.i .i64))], []⟩, [(.exit 0, ⟨[(3, .one (.s))], []⟩)]⟩
set_option maxRecDepth 100000 in
theorem rq_R05_Text_30_3 (v0 : List (List PV)) (v1 : ByteArray) (v2 : Int) : runK br Try.prog (callK br Try.prog X129 M_R05_Text L_R05_Text (lsT []) 40) M_R05_Text (lsT [] 30 0) 40 0 (L_R05_Text 30) (bodyOf Try.prog 30 3) (sp_R05_Text_30_3.s.ts sp_R05_Text_30_3.n [.l v0, .s v1, .i v2]) (sp_R05_Text_30_3.s.h [.l v0, .s v1, .i v2]) (idc Try.prog 0 (L_R05_Text 30) 3) =
    (rd_R05_Text_30_3 [.l v0, .s v1, .i v2]).go br (fun us' => some (.normal, sp_R05_Text_30_3.s.ts sp_R05_Text_30_3.n us', sp_R05_Text_30_3.s.h us')) sp_R05_Text_30_3.fin := by
  rw [← callF_eq, ← runF_eq]; kernel_rfl
theorem lo_R05_Text_30_3 {R : Type} : LoopTells Try.prog X129 M_R05_Text L_R05_Text 0 (L_R05_Text 30) (bodyOf Try.prog 30 3) (gL (R := R) sp_R05_Text_30_3 rd_R05_Text_30_3 br) :=
  loopTold (callK_ev (loopsOK_list rids noneIn) 40) (lsokIn (loopsOK_list rids noneIn) 30 0 3) (by kernel_rfl) sp_R05_Text_30_3 rd_R05_Text_30_3 rfl (by kernel_rfl) (by
    intro us v h; unfold rd_R05_Text_30_3 at h; split at h
    · rename_i v0 v1 v2; exact rq_R05_Text_30_3 v0 v1 v2
    · cases h)
noncomputable abbrev ll_R05_Text_30_3 {R : Type} : List (Nat × Nat × Nat × Smy R) := (30, 0, 3, gL sp_R05_Text_30_3 rd_R05_Text_30_3 br) :: []
theorem lk_R05_Text_30_3 {R : Type} : ∀ e ∈ ll_R05_Text_30_3 (R := R), LoopTells Try.prog X129 M_R05_Text L_R05_Text e.2.1 (L_R05_Text e.1) (bodyOf Try.prog e.1 e.2.2.1) e.2.2.2 := List.forall_mem_cons.2 ⟨lo_R05_Text_30_3, noneIn⟩
def S_R05_Text : FSp := ⟨[.one (.l 54)], [], [], [([.one (.s)], [])]⟩
noncomputable def m_R05_Text : List U → Rt
  | [.l v0] =>
    (let r0 : Rs := (lres rd_R05_Text_30_3 [U.l v0, U.s { data := #[] }, U.i (0 : Int)])
    (.test (ok r0 0)
    (.stop 0 [.s (uS (out r0 0) 0)])
    .fail))
  | _ => .fail
set_option maxRecDepth 100000 in
theorem q_R05_Text (v0 : List (List PV)) : callK br Try.prog X129 M_R05_Text L_R05_Text (lsT ll_R05_Text_30_3) 60 30 (encs [.l v0] 0 S_R05_Text.ap) (encH [.l v0] (ws S_R05_Text.ap) S_R05_Text.ah) (fun y => fixR Try.prog S_R05_Text.plan S_R05_Text.ah.length y) =
    (m_R05_Text [.l v0]).go br (fun _ => none) S_R05_Text.fin := by
  rw [← callF_eq]; kernel_rfl
theorem e_R05_Text : EOK Try.prog 30 (gF S_R05_Text m_R05_Text) :=
  eokTold mixed named x129 (loopsOK_list rids lk_R05_Text_30_3) 60 S_R05_Text m_R05_Text (by
    intro us v h; unfold m_R05_Text at h; split at h
    · rename_i v0; exact q_R05_Text v0
    · cases h) false
noncomputable abbrev X130 : Ext := extT [(30, (gF S_R05_Text m_R05_Text))] X129
theorem x130 : XOK Try.prog X130 := xok1 x129 e_R05_Text

/-- levee/leveelaw16.fixed -/
def L_L16_fixed : FuncId → Nat → Option (List Nat) := liveT []
def M_L16_fixed : FuncId → Bool := fun f => f == 65 || f == 72 || f == 74 || f == 75 || f == 77 || f == 78 || f == 31 || f == 44 || f == 37 || f == 33
def S_L16_fixed : FSp := ⟨[], [], [], [([.one (.b)], [])]⟩
noncomputable def m_L16_fixed : List U → Rt
  | [] =>
    (.stop 0 [.b true])
  | _ => .fail
set_option maxRecDepth 100000 in
theorem q_L16_fixed : callK br Try.prog XI M_L16_fixed L_L16_fixed (lsT []) 60 10 (encs [] 0 S_L16_fixed.ap) (encH [] (ws S_L16_fixed.ap) S_L16_fixed.ah) (fun y => fixR Try.prog S_L16_fixed.plan S_L16_fixed.ah.length y) =
    (m_L16_fixed []).go br (fun _ => none) S_L16_fixed.fin := by
  rw [← callF_eq]; kernel_rfl
theorem e_L16_fixed : EOK Try.prog 10 (gI S_L16_fixed m_L16_fixed) :=
  eokTold mixed named xI (loopsOK_list rids noneIn) 60 S_L16_fixed m_L16_fixed (by
    intro us v h; unfold m_L16_fixed at h; split at h
    · exact q_L16_fixed
    · cases h) true
noncomputable abbrev X131 : Ext := extT [(10, (gI S_L16_fixed m_L16_fixed))] X130
theorem x131 : XOK Try.prog X131 := xok1 x130 e_L16_fixed

/-- levee/leveeref16.Right -/
def L_R16_Right : FuncId → Nat → Option (List Nat) := liveT []
def M_R16_Right : FuncId → Bool := fun _ => false
def S_R16_Right : FSp := ⟨[.agg [.l 28, .i .i64]], [], [], [([.one (.b)], [])]⟩
noncomputable def m_R16_Right : List U → Rt
  | [.l v0, .i v1] =>
    (.test (ln v0 == (0 : Int))
    (.stop 0 [.b false])
    (.test (decide (v1 < (0 : Int)))
    (.stop 0 [.b false])
    (let r0 : Rs := (Rt.res (m_R04_May [U.l v0]))
    (.test (ok r0 0)
    (.test (uB (out r0 0) 0)
    (.test (inR (0 : Int) (ln v0))
    (.stop 0 [.b (cI (List.getD v0 0 []) 0 != (0 : Int))])
    .fail)
    (.stop 0 [.b false]))
    .fail))))
  | _ => .fail
set_option maxRecDepth 100000 in
theorem q_R16_Right (v0 : List (List PV)) (v1 : Int) : callK br Try.prog X131 M_R16_Right L_R16_Right (lsT []) 60 26 (encs [.l v0, .i v1] 0 S_R16_Right.ap) (encH [.l v0, .i v1] (ws S_R16_Right.ap) S_R16_Right.ah) (fun y => fixR Try.prog S_R16_Right.plan S_R16_Right.ah.length y) =
    (m_R16_Right [.l v0, .i v1]).go br (fun _ => none) S_R16_Right.fin := by
  rw [← callF_eq]; kernel_rfl
theorem e_R16_Right : EOK Try.prog 26 (gF S_R16_Right m_R16_Right) :=
  eokTold mixed named x131 (loopsOK_list rids noneIn) 60 S_R16_Right m_R16_Right (by
    intro us v h; unfold m_R16_Right at h; split at h
    · rename_i v0 v1; exact q_R16_Right v0 v1
    · cases h) false
noncomputable abbrev X132 : Ext := extT [(26, (gF S_R16_Right m_R16_Right))] X131
theorem x132 : XOK Try.prog X132 := xok1 x131 e_R16_Right

/-- levee/leveeref16.May -/
def L_R16_May : FuncId → Nat → Option (List Nat) := liveT [(16, 2, [1, 3]), (16, 1000002, []), (16, 2000002, [2])]
def M_R16_May : FuncId → Bool := fun _ => false
noncomputable def rd_R16_May_16_2 : List U → Rt
  | [.i v0, .s v1, .l v2] =>
    (.test (decide (v0 < ln v2))
    (.test (inR v0 (ln v2))
    (let r0 : Rs := (Rt.res (m_R16_Right [U.l (cL (el v2 v0) 0), U.i (cI (el v2 v0) 1)]))
    (.test (ok r0 0)
    (.test (!uB (out r0 0) 0)
    (.stop 0 [.b false])
    (.test (decide (v0 > (0 : Int)))
    (.test (inR (w64 (v0 - (1 : Int))) (ln v2))
    (.test (inR (0 : Int) (ln (cL (el v2 (w64 (v0 - (1 : Int)))) 0)))
    (.test (inR v0 (ln v2))
    (.test (inR (0 : Int) (ln (cL (el v2 v0) 0)))
    (let r1 : Rs := (Rt.res (m_R01_Compare [U.i (cI (List.getD (cL (el v2 (w64 (v0 - (1 : Int)))) 0) 0 []) 0), U.i (cI (List.getD (cL (el v2 (w64 (v0 - (1 : Int)))) 0) 0 []) 1), U.s (cS (List.getD (cL (el v2 (w64 (v0 - (1 : Int)))) 0) 0 []) 2), U.i (cI (List.getD (cL (el v2 v0) 0) 0 []) 0), U.i (cI (List.getD (cL (el v2 v0) 0) 0 []) 1), U.s (cS (List.getD (cL (el v2 v0) 0) 0 []) 2)]))
    (.test (ok r1 0)
    (.test (decide (uI (out r1 0) 0 ≥ (0 : Int)))
    (.stop 0 [.b false])
    (.next [.i (w64 (v0 + (1 : Int))), .s v1, .l v2]))
    .fail))
    .fail)
    .fail)
    .fail)
    .fail)
    (.next [.i (w64 (v0 + (1 : Int))), .s v1, .l v2])))
    .fail))
    .fail)
    (.stop 1 []))
  | _ => .fail
def sp_R16_May_16_2 : LSp := ⟨41, ⟨[(1, .one (.ptr 0 0)), (3, .one (.i .i64))], [.box 24 [.one (.s), .one (.l 35)]]⟩, [(.ret, ⟨[(2, .one (.b))], []⟩), (.exit 0, ⟨[], []⟩)]⟩
set_option maxRecDepth 100000 in
theorem rq_R16_May_16_2 (v0 : Int) (v1 : ByteArray) (v2 : List (List PV)) : runK br Try.prog (callK br Try.prog X132 M_R16_May L_R16_May (lsT []) 40) M_R16_May (lsT [] 16 0) 40 0 (L_R16_May 16) (bodyOf Try.prog 16 2) (sp_R16_May_16_2.s.ts sp_R16_May_16_2.n [.i v0, .s v1, .l v2]) (sp_R16_May_16_2.s.h [.i v0, .s v1, .l v2]) (idc Try.prog 0 (L_R16_May 16) 2) =
    (rd_R16_May_16_2 [.i v0, .s v1, .l v2]).go br (fun us' => some (.normal, sp_R16_May_16_2.s.ts sp_R16_May_16_2.n us', sp_R16_May_16_2.s.h us')) sp_R16_May_16_2.fin := by
  rw [← callF_eq, ← runF_eq]; kernel_rfl
theorem lo_R16_May_16_2 {R : Type} : LoopTells Try.prog X132 M_R16_May L_R16_May 0 (L_R16_May 16) (bodyOf Try.prog 16 2) (gL (R := R) sp_R16_May_16_2 rd_R16_May_16_2 br) :=
  loopTold (callK_ev (loopsOK_list rids noneIn) 40) (lsokIn (loopsOK_list rids noneIn) 16 0 2) (by kernel_rfl) sp_R16_May_16_2 rd_R16_May_16_2 rfl (by kernel_rfl) (by
    intro us v h; unfold rd_R16_May_16_2 at h; split at h
    · rename_i v0 v1 v2; exact rq_R16_May_16_2 v0 v1 v2
    · cases h)
noncomputable abbrev ll_R16_May_16_2 {R : Type} : List (Nat × Nat × Nat × Smy R) := (16, 0, 2, gL sp_R16_May_16_2 rd_R16_May_16_2 br) :: []
theorem lk_R16_May_16_2 {R : Type} : ∀ e ∈ ll_R16_May_16_2 (R := R), LoopTells Try.prog X132 M_R16_May L_R16_May e.2.1 (L_R16_May e.1) (bodyOf Try.prog e.1 e.2.2.1) e.2.2.2 := List.forall_mem_cons.2 ⟨lo_R16_May_16_2, noneIn⟩
def S_R16_May : FSp := ⟨[.agg [.s, .l 35]], [], [], [([.one (.b)], [])]⟩
noncomputable def m_R16_May : List U → Rt
  | [.s v0, .l v1] =>
    (let r0 : Rs := (lres rd_R16_May_16_2 [U.i (0 : Int), U.s v0, U.l v1])
    (.test (ok r0 0)
    (.stop 0 [.b (uB (out r0 0) 0)])
    (.test (ok r0 1)
    (.stop 0 [.b true])
    .fail)))
  | _ => .fail
set_option maxRecDepth 100000 in
theorem q_R16_May (v0 : ByteArray) (v1 : List (List PV)) : callK br Try.prog X132 M_R16_May L_R16_May (lsT ll_R16_May_16_2) 60 16 (encs [.s v0, .l v1] 0 S_R16_May.ap) (encH [.s v0, .l v1] (ws S_R16_May.ap) S_R16_May.ah) (fun y => fixR Try.prog S_R16_May.plan S_R16_May.ah.length y) =
    (m_R16_May [.s v0, .l v1]).go br (fun _ => none) S_R16_May.fin := by
  rw [← callF_eq]; kernel_rfl
theorem e_R16_May : EOK Try.prog 16 (gF S_R16_May m_R16_May) :=
  eokTold mixed named x132 (loopsOK_list rids lk_R16_May_16_2) 60 S_R16_May m_R16_May (by
    intro us v h; unfold m_R16_May at h; split at h
    · rename_i v0 v1; exact q_R16_May v0 v1
    · cases h) false
noncomputable abbrev X133 : Ext := extT [(16, (gF S_R16_May m_R16_May))] X132
theorem x133 : XOK Try.prog X133 := xok1 x132 e_R16_May

/-- levee/leveeref16.Get -/
def L_R16_Get : FuncId → Nat → Option (List Nat) := liveT [(12, 2, [2, 3, 4, 6]), (12, 1000002, [4]), (12, 2000002, [4, 5])]
def M_R16_Get : FuncId → Bool := fun _ => false
noncomputable def rd_R16_Get_12_2 : List U → Rt
  | [.i v0, .s v1, .l v2, .i v3, .i v4, .s v5, .i v6] =>
    (.test (decide (v0 < ln v2))
    (let r0 : Rs := (Rt.res (m_R16_May [U.s v1, U.l v2]))
    (.test (ok r0 0)
    (.test (uB (out r0 0) 0)
    (.test (inR v0 (ln v2))
    (.test (inR (0 : Int) (ln (cL (el v2 v0) 0)))
    (.test (cI (List.getD (cL (el v2 v0) 0) 0 []) 0 == v3 && (cI (List.getD (cL (el v2 v0) 0) 0 []) 1 == v4 && (ByteArray.toList (cS (List.getD (cL (el v2 v0) 0) 0 []) 2) == ByteArray.toList v5 && true)))
    (.test (inR v0 (ln v2))
    (.stop 0 [.b true, .l (cL (el v2 v0) 0), .i (cI (el v2 v0) 1)])
    .fail)
    (.next [.i (w64 (v0 + (1 : Int))), .s v1, .l v2, .i v3, .i v4, .s v5, .i v6]))
    .fail)
    .fail)
    (.stop 1 [.i v6]))
    .fail))
    (.stop 1 [.i v6]))
  | _ => .fail
def sp_R16_Get_12_2 : LSp := ⟨34, ⟨[(2, .one (.ptr 0 0)), (3, .one (.ptr 1 0)), (4, .one (.ptr 2 0)), (6, .one (.i .i64))], [.box 24 [.one (.s), .one (.l 35)], .box 28 [.one (.i .i64), .one (.i .i64), .one (.s)], .box 35 [.one (.nils), .one (.i .i64)]]⟩, [(.ret, ⟨[(4, .one (.ptr 0 0)), (5, .one (.b))], [.box 35 [.one (.l 28), .one (.i .i64)]]⟩), (.exit 0, ⟨[(4, .one (.ptr 0 0))], [.box 35 [.one (.nils), .one (.i .i64)]]⟩)]⟩
set_option maxRecDepth 100000 in
theorem rq_R16_Get_12_2 (v0 : Int) (v1 : ByteArray) (v2 : List (List PV)) (v3 : Int) (v4 : Int) (v5 : ByteArray) (v6 : Int) : runK br Try.prog (callK br Try.prog X133 M_R16_Get L_R16_Get (lsT []) 40) M_R16_Get (lsT [] 12 0) 40 0 (L_R16_Get 12) (bodyOf Try.prog 12 2) (sp_R16_Get_12_2.s.ts sp_R16_Get_12_2.n [.i v0, .s v1, .l v2, .i v3, .i v4, .s v5, .i v6]) (sp_R16_Get_12_2.s.h [.i v0, .s v1, .l v2, .i v3, .i v4, .s v5, .i v6]) (idc Try.prog 0 (L_R16_Get 12) 2) =
    (rd_R16_Get_12_2 [.i v0, .s v1, .l v2, .i v3, .i v4, .s v5, .i v6]).go br (fun us' => some (.normal, sp_R16_Get_12_2.s.ts sp_R16_Get_12_2.n us', sp_R16_Get_12_2.s.h us')) sp_R16_Get_12_2.fin := by
  rw [← callF_eq, ← runF_eq]; kernel_rfl
theorem lo_R16_Get_12_2 {R : Type} : LoopTells Try.prog X133 M_R16_Get L_R16_Get 0 (L_R16_Get 12) (bodyOf Try.prog 12 2) (gL (R := R) sp_R16_Get_12_2 rd_R16_Get_12_2 br) :=
  loopTold (callK_ev (loopsOK_list rids noneIn) 40) (lsokIn (loopsOK_list rids noneIn) 12 0 2) (by kernel_rfl) sp_R16_Get_12_2 rd_R16_Get_12_2 rfl (by kernel_rfl) (by
    intro us v h; unfold rd_R16_Get_12_2 at h; split at h
    · rename_i v0 v1 v2 v3 v4 v5 v6; exact rq_R16_Get_12_2 v0 v1 v2 v3 v4 v5 v6
    · cases h)
noncomputable abbrev ll_R16_Get_12_2 {R : Type} : List (Nat × Nat × Nat × Smy R) := (12, 0, 2, gL sp_R16_Get_12_2 rd_R16_Get_12_2 br) :: []
theorem lk_R16_Get_12_2 {R : Type} : ∀ e ∈ ll_R16_Get_12_2 (R := R), LoopTells Try.prog X133 M_R16_Get L_R16_Get e.2.1 (L_R16_Get e.1) (bodyOf Try.prog e.1 e.2.2.1) e.2.2.2 := List.forall_mem_cons.2 ⟨lo_R16_Get_12_2, noneIn⟩
def S_R16_Get : FSp := ⟨[.agg [.s, .l 35], .agg [.i .i64, .i .i64, .s]], [], [1000058000000], [([.agg [.l 28, .i .i64], .one (.b)], [])]⟩
noncomputable def m_R16_Get : List U → Rt
  | [.s v0, .l v1, .i v2, .i v3, .s v4] =>
    (let r0 : Rs := (lres rd_R16_Get_12_2 [U.i (0 : Int), U.s v0, U.l v1, U.i v2, U.i v3, U.s v4, U.i (0 : Int)])
    (.test (ok r0 0)
    (.stop 0 [.l (uL (out r0 0) 1), .i (uI (out r0 0) 2), .b (uB (out r0 0) 0)])
    (.test (ok r0 1)
    (.stop 0 [.l [], .i ((0 : Int)), .b false])
    .fail)))
  | _ => .fail
set_option maxRecDepth 100000 in
theorem q_R16_Get (v0 : ByteArray) (v1 : List (List PV)) (v2 : Int) (v3 : Int) (v4 : ByteArray) : callK br Try.prog X133 M_R16_Get L_R16_Get (lsT ll_R16_Get_12_2) 60 12 (encs [.s v0, .l v1, .i v2, .i v3, .s v4] 0 S_R16_Get.ap) (encH [.s v0, .l v1, .i v2, .i v3, .s v4] (ws S_R16_Get.ap) S_R16_Get.ah) (fun y => fixR Try.prog S_R16_Get.plan S_R16_Get.ah.length y) =
    (m_R16_Get [.s v0, .l v1, .i v2, .i v3, .s v4]).go br (fun _ => none) S_R16_Get.fin := by
  rw [← callF_eq]; kernel_rfl
theorem e_R16_Get : EOK Try.prog 12 (gF S_R16_Get m_R16_Get) :=
  eokTold mixed named x133 (loopsOK_list rids lk_R16_Get_12_2) 60 S_R16_Get m_R16_Get (by
    intro us v h; unfold m_R16_Get at h; split at h
    · rename_i v0 v1 v2 v3 v4; exact q_R16_Get v0 v1 v2 v3 v4
    · cases h) false
noncomputable abbrev X134 : Ext := extT [(12, (gF S_R16_Get m_R16_Get))] X133
theorem x134 : XOK Try.prog X134 := xok1 x133 e_R16_Get

/-- levee/leveeref16.Cut -/
def L_R16_Cut : FuncId → Nat → Option (List Nat) := liveT [(14, 6, [2, 3, 4, 8, 9] ++ [2000071000008]), (14, 1000006, [4, 8]), (14, 2000006, [4, 5])]
def M_R16_Cut : FuncId → Bool := fun _ => false
noncomputable def rd_R16_Cut_14_6 : List U → Rt
  | [.i v0, .s v1, .l v2, .i v3, .i v4, .s v5, .s v6, .s v7, .l v8] =>
    (.test (decide (v0 < ln v2))
    (.test (inR v0 (ln v2))
    (.test (inR (0 : Int) (ln (cL (el v2 v0) 0)))
    (.test (!(cI (List.getD (cL (el v2 v0) 0) 0 []) 0 == v3 && (cI (List.getD (cL (el v2 v0) 0) 0 []) 1 == v4 && (ByteArray.toList (cS (List.getD (cL (el v2 v0) 0) 0 []) 2) == ByteArray.toList v5 && true))))
    (.test (inR v0 (ln v2))
    (.test (decide ((List.length v8 + 1) * 32 ≤ 140737488355328))
    (.next [.i (w64 (v0 + (1 : Int))), .s v1, .l v2, .i v3, .i v4, .s v5, .s v6, .s v7, .l (v8 ++ [[PV.lst 28 (cL (el v2 v0) 0), pI (cI (el v2 v0) 1)]])])
    .fail)
    .fail)
    (.next [.i (w64 (v0 + (1 : Int))), .s v1, .l v2, .i v3, .i v4, .s v5, .s v6, .s v7, .l v8]))
    .fail)
    .fail)
    (.stop 0 [.s v6, .s v7, .l v8]))
  | _ => .fail
def sp_R16_Cut_14_6 : LSp := ⟨50, ⟨[(2, .one (.ptr 0 0)), (3, .one (.ptr 1 0)), (4, .one (.ptr 2 0)), (8, .one (.ptr 3 0)), (9, .one (.i .i64))], [.box 24 [.one (.s), .one (.l 35)], .box 28 [.one (.i .i64), .one (.i .i64), .one (.s)], .box 24 [.one (.s), .one (.nils)], .box 24 [.one (.s), .one (.all 4)], .arr 35 true]⟩, [(.exit 0, ⟨[(4, .one (.ptr 0 0)), (8, .one (.ptr 1 0))], [.box 24 [.one (.s), .one (.nils)], .box 24 [.one (.s), .one (.all 2)], .arr 35 true]⟩)]⟩
set_option maxRecDepth 100000 in
theorem rq_R16_Cut_14_6 (v0 : Int) (v1 : ByteArray) (v2 : List (List PV)) (v3 : Int) (v4 : Int) (v5 : ByteArray) (v6 : ByteArray) (v7 : ByteArray) (v8 : List (List PV)) : runK br Try.prog (callK br Try.prog X134 M_R16_Cut L_R16_Cut (lsT []) 40) M_R16_Cut (lsT [] 14 0) 40 0 (L_R16_Cut 14) (bodyOf Try.prog 14 6) (sp_R16_Cut_14_6.s.ts sp_R16_Cut_14_6.n [.i v0, .s v1, .l v2, .i v3, .i v4, .s v5, .s v6, .s v7, .l v8]) (sp_R16_Cut_14_6.s.h [.i v0, .s v1, .l v2, .i v3, .i v4, .s v5, .s v6, .s v7, .l v8]) (idc Try.prog 0 (L_R16_Cut 14) 6) =
    (rd_R16_Cut_14_6 [.i v0, .s v1, .l v2, .i v3, .i v4, .s v5, .s v6, .s v7, .l v8]).go br (fun us' => some (.normal, sp_R16_Cut_14_6.s.ts sp_R16_Cut_14_6.n us', sp_R16_Cut_14_6.s.h us')) sp_R16_Cut_14_6.fin := by
  rw [← callF_eq, ← runF_eq]; kernel_rfl
theorem lo_R16_Cut_14_6 {R : Type} : LoopTells Try.prog X134 M_R16_Cut L_R16_Cut 0 (L_R16_Cut 14) (bodyOf Try.prog 14 6) (gL (R := R) sp_R16_Cut_14_6 rd_R16_Cut_14_6 br) :=
  loopTold (callK_ev (loopsOK_list rids noneIn) 40) (lsokIn (loopsOK_list rids noneIn) 14 0 6) (by kernel_rfl) sp_R16_Cut_14_6 rd_R16_Cut_14_6 rfl (by kernel_rfl) (by
    intro us v h; unfold rd_R16_Cut_14_6 at h; split at h
    · rename_i v0 v1 v2 v3 v4 v5 v6 v7 v8; exact rq_R16_Cut_14_6 v0 v1 v2 v3 v4 v5 v6 v7 v8
    · cases h)
noncomputable abbrev ll_R16_Cut_14_6 {R : Type} : List (Nat × Nat × Nat × Smy R) := (14, 0, 6, gL sp_R16_Cut_14_6 rd_R16_Cut_14_6 br) :: []
theorem lk_R16_Cut_14_6 {R : Type} : ∀ e ∈ ll_R16_Cut_14_6 (R := R), LoopTells Try.prog X134 M_R16_Cut L_R16_Cut e.2.1 (L_R16_Cut e.1) (bodyOf Try.prog e.1 e.2.2.1) e.2.2.2 := List.forall_mem_cons.2 ⟨lo_R16_Cut_14_6, noneIn⟩
def S_R16_Cut : FSp := ⟨[.agg [.s, .l 35], .agg [.i .i64, .i .i64, .s]], [], [2000071000000], [([.agg [.s, .all 0], .one (.b)], [.arr 35 true])]⟩
noncomputable def m_R16_Cut : List U → Rt
  | [.s v0, .l v1, .i v2, .i v3, .s v4] =>
    (let r0 : Rs := (Rt.res (m_R16_Get [U.s v0, U.l v1, U.i v2, U.i v3, U.s v4]))
    (.test (ok r0 0)
    (.test (!uB (out r0 0) 2)
    (.stop 0 [.s ({ data := #[] }), .b false, .l []])
    (let r1 : Rs := (lres rd_R16_Cut_14_6 [U.i (0 : Int), U.s v0, U.l v1, U.i v2, U.i v3, U.s v4, U.s { data := #[] }, U.s v0, U.l []])
    (.test (ok r1 0)
    (.stop 0 [.s (uS (out r1 0) 1), .b true, .l (uL (out r1 0) 2)])
    .fail)))
    .fail))
  | _ => .fail
set_option maxRecDepth 100000 in
theorem q_R16_Cut (v0 : ByteArray) (v1 : List (List PV)) (v2 : Int) (v3 : Int) (v4 : ByteArray) : callK br Try.prog X134 M_R16_Cut L_R16_Cut (lsT ll_R16_Cut_14_6) 60 14 (encs [.s v0, .l v1, .i v2, .i v3, .s v4] 0 S_R16_Cut.ap) (encH [.s v0, .l v1, .i v2, .i v3, .s v4] (ws S_R16_Cut.ap) S_R16_Cut.ah) (fun y => fixR Try.prog S_R16_Cut.plan S_R16_Cut.ah.length y) =
    (m_R16_Cut [.s v0, .l v1, .i v2, .i v3, .s v4]).go br (fun _ => none) S_R16_Cut.fin := by
  rw [← callF_eq]; kernel_rfl
theorem e_R16_Cut : EOK Try.prog 14 (gF S_R16_Cut m_R16_Cut) :=
  eokTold mixed named x134 (loopsOK_list rids lk_R16_Cut_14_6) 60 S_R16_Cut m_R16_Cut (by
    intro us v h; unfold m_R16_Cut at h; split at h
    · rename_i v0 v1 v2 v3 v4; exact q_R16_Cut v0 v1 v2 v3 v4
    · cases h) false
noncomputable abbrev X135 : Ext := extT [(14, (gF S_R16_Cut m_R16_Cut))] X134
theorem x135 : XOK Try.prog X135 := xok1 x134 e_R16_Cut

/-- levee/leveeref16.SameRecs -/
def L_R16_SameRecs : FuncId → Nat → Option (List Nat) := liveT [(17, 4, [0, 1, 5]), (17, 1000004, []), (17, 2000004, [4])]
def M_R16_SameRecs : FuncId → Bool := fun _ => false
noncomputable def rd_R16_SameRecs_17_4 : List U → Rt
  | [.l v0, .l v1, .i v2] =>
    (.test (decide (v2 < ln v0))
    (.test (inR v2 (ln v0))
    (.test (inR v2 (ln v1))
    (.test (cI (el v0 v2) 1 != cI (el v1 v2) 1)
    (.stop 0 [.b false])
    (.test (inR v2 (ln v0))
    (.test (inR v2 (ln v1))
    (let r0 : Rs := (Rt.res (m_R02_Compare [U.l (cL (el v0 v2) 0), U.l (cL (el v1 v2) 0)]))
    (.test (ok r0 0)
    (.test (uI (out r0 0) 0 != (0 : Int))
    (.stop 0 [.b false])
    (.next [.l v0, .l v1, .i (w64 (v2 + (1 : Int)))]))
    .fail))
    .fail)
    .fail))
    .fail)
    .fail)
    (.stop 1 []))
  | _ => .fail
def sp_R16_SameRecs_17_4 : LSp := ⟨42, ⟨[(0, .one (.l 35)), (1, .one (.l 35)), (5, .one (.i .i64))], []⟩, [(.ret, ⟨[(4, .one (.b))], []⟩), (.exit 0, ⟨[], []⟩)]⟩
set_option maxRecDepth 100000 in
theorem rq_R16_SameRecs_17_4 (v0 : List (List PV)) (v1 : List (List PV)) (v2 : Int) : runK br Try.prog (callK br Try.prog X135 M_R16_SameRecs L_R16_SameRecs (lsT []) 40) M_R16_SameRecs (lsT [] 17 0) 40 0 (L_R16_SameRecs 17) (bodyOf Try.prog 17 4) (sp_R16_SameRecs_17_4.s.ts sp_R16_SameRecs_17_4.n [.l v0, .l v1, .i v2]) (sp_R16_SameRecs_17_4.s.h [.l v0, .l v1, .i v2]) (idc Try.prog 0 (L_R16_SameRecs 17) 4) =
    (rd_R16_SameRecs_17_4 [.l v0, .l v1, .i v2]).go br (fun us' => some (.normal, sp_R16_SameRecs_17_4.s.ts sp_R16_SameRecs_17_4.n us', sp_R16_SameRecs_17_4.s.h us')) sp_R16_SameRecs_17_4.fin := by
  rw [← callF_eq, ← runF_eq]; kernel_rfl
theorem lo_R16_SameRecs_17_4 {R : Type} : LoopTells Try.prog X135 M_R16_SameRecs L_R16_SameRecs 0 (L_R16_SameRecs 17) (bodyOf Try.prog 17 4) (gL (R := R) sp_R16_SameRecs_17_4 rd_R16_SameRecs_17_4 br) :=
  loopTold (callK_ev (loopsOK_list rids noneIn) 40) (lsokIn (loopsOK_list rids noneIn) 17 0 4) (by kernel_rfl) sp_R16_SameRecs_17_4 rd_R16_SameRecs_17_4 rfl (by kernel_rfl) (by
    intro us v h; unfold rd_R16_SameRecs_17_4 at h; split at h
    · rename_i v0 v1 v2; exact rq_R16_SameRecs_17_4 v0 v1 v2
    · cases h)
noncomputable abbrev ll_R16_SameRecs_17_4 {R : Type} : List (Nat × Nat × Nat × Smy R) := (17, 0, 4, gL sp_R16_SameRecs_17_4 rd_R16_SameRecs_17_4 br) :: []
theorem lk_R16_SameRecs_17_4 {R : Type} : ∀ e ∈ ll_R16_SameRecs_17_4 (R := R), LoopTells Try.prog X135 M_R16_SameRecs L_R16_SameRecs e.2.1 (L_R16_SameRecs e.1) (bodyOf Try.prog e.1 e.2.2.1) e.2.2.2 := List.forall_mem_cons.2 ⟨lo_R16_SameRecs_17_4, noneIn⟩
def S_R16_SameRecs : FSp := ⟨[.one (.l 35), .one (.l 35)], [], [], [([.one (.b)], [])]⟩
noncomputable def m_R16_SameRecs : List U → Rt
  | [.l v0, .l v1] =>
    (.test (ln v0 != ln v1)
    (.stop 0 [.b false])
    (let r0 : Rs := (lres rd_R16_SameRecs_17_4 [U.l v0, U.l v1, U.i (0 : Int)])
    (.test (ok r0 0)
    (.stop 0 [.b (uB (out r0 0) 0)])
    (.test (ok r0 1)
    (.stop 0 [.b true])
    .fail))))
  | _ => .fail
set_option maxRecDepth 100000 in
theorem q_R16_SameRecs (v0 : List (List PV)) (v1 : List (List PV)) : callK br Try.prog X135 M_R16_SameRecs L_R16_SameRecs (lsT ll_R16_SameRecs_17_4) 60 17 (encs [.l v0, .l v1] 0 S_R16_SameRecs.ap) (encH [.l v0, .l v1] (ws S_R16_SameRecs.ap) S_R16_SameRecs.ah) (fun y => fixR Try.prog S_R16_SameRecs.plan S_R16_SameRecs.ah.length y) =
    (m_R16_SameRecs [.l v0, .l v1]).go br (fun _ => none) S_R16_SameRecs.fin := by
  rw [← callF_eq]; kernel_rfl
theorem e_R16_SameRecs : EOK Try.prog 17 (gF S_R16_SameRecs m_R16_SameRecs) :=
  eokTold mixed named x135 (loopsOK_list rids lk_R16_SameRecs_17_4) 60 S_R16_SameRecs m_R16_SameRecs (by
    intro us v h; unfold m_R16_SameRecs at h; split at h
    · rename_i v0 v1; exact q_R16_SameRecs v0 v1
    · cases h) false
noncomputable abbrev X136 : Ext := extT [(17, (gF S_R16_SameRecs m_R16_SameRecs))] X135
theorem x136 : XOK Try.prog X136 := xok1 x135 e_R16_SameRecs

/-- levee/leveeref16.Same -/
def L_R16_Same : FuncId → Nat → Option (List Nat) := liveT []
def M_R16_Same : FuncId → Bool := fun _ => false
def S_R16_Same : FSp := ⟨[.agg [.s, .l 35], .agg [.s, .l 35]], [], [], [([.one (.b)], [])]⟩
noncomputable def m_R16_Same : List U → Rt
  | [.s v0, .l v1, .s v2, .l v3] =>
    (.test (ByteArray.toList v0 == ByteArray.toList v2)
    (let r0 : Rs := (Rt.res (m_R16_SameRecs [U.l v1, U.l v3]))
    (.test (ok r0 0)
    (.stop 0 [.b (uB (out r0 0) 0)])
    .fail))
    (.stop 0 [.b false]))
  | _ => .fail
set_option maxRecDepth 100000 in
theorem q_R16_Same (v0 : ByteArray) (v1 : List (List PV)) (v2 : ByteArray) (v3 : List (List PV)) : callK br Try.prog X136 M_R16_Same L_R16_Same (lsT []) 60 18 (encs [.s v0, .l v1, .s v2, .l v3] 0 S_R16_Same.ap) (encH [.s v0, .l v1, .s v2, .l v3] (ws S_R16_Same.ap) S_R16_Same.ah) (fun y => fixR Try.prog S_R16_Same.plan S_R16_Same.ah.length y) =
    (m_R16_Same [.s v0, .l v1, .s v2, .l v3]).go br (fun _ => none) S_R16_Same.fin := by
  rw [← callF_eq]; kernel_rfl
theorem e_R16_Same : EOK Try.prog 18 (gF S_R16_Same m_R16_Same) :=
  eokTold mixed named x136 (loopsOK_list rids noneIn) 60 S_R16_Same m_R16_Same (by
    intro us v h; unfold m_R16_Same at h; split at h
    · rename_i v0 v1 v2 v3; exact q_R16_Same v0 v1 v2 v3
    · cases h) false
noncomputable abbrev X137 : Ext := extT [(18, (gF S_R16_Same m_R16_Same))] X136
theorem x137 : XOK Try.prog X137 := xok1 x136 e_R16_Same

/-- levee/leveeref16.Put -/
def L_R16_Put : FuncId → Nat → Option (List Nat) := liveT [(20, 7, [1, 3, 6, 7, 8, 9, 10] ++ [2000071000008]), (20, 1000007, [6, 7, 8, 9]), (20, 2000007, [6])]
def M_R16_Put : FuncId → Bool := fun _ => false
noncomputable def rd_R16_Put_20_7 : List U → Rt
  | [.l v0, .b v1, .i v2, .s v3, .l v4, .s v5, .l v6, .i v7, .s v8, .l v9] =>
    (.test (decide (v2 < ln v4))
    (.test (inR v2 (ln v4))
    (.test (inR (0 : Int) (ln (cL (el v4 v2) 0)))
    (.test (inR (0 : Int) (ln v0))
    (let r0 : Rs := (Rt.res (m_R01_Compare [U.i (cI (List.getD (cL (el v4 v2) 0) 0 []) 0), U.i (cI (List.getD (cL (el v4 v2) 0) 0 []) 1), U.s (cS (List.getD (cL (el v4 v2) 0) 0 []) 2), U.i (cI (List.getD v0 0 []) 0), U.i (cI (List.getD v0 0 []) 1), U.s (cS (List.getD v0 0 []) 2)]))
    (.test (ok r0 0)
    (.test (decide (uI (out r0 0) 0 ≥ (0 : Int)))
    (.test (!v1)
    (.test (decide ((List.length v9 + 1) * 32 ≤ 140737488355328))
    (.test (uI (out r0 0) 0 != (0 : Int))
    (.test (inR v2 (ln v4))
    (.test (decide ((List.length (v9 ++ [[PV.lst 28 v6, pI v7]]) + 1) * 32 ≤ 140737488355328))
    (.next [.l v0, .b true, .i (w64 (v2 + (1 : Int))), .s v3, .l v4, .s v5, .l v6, .i v7, .s v8, .l (v9 ++ [[PV.lst 28 v6, pI v7]] ++ [[PV.lst 28 (cL (el v4 v2) 0), pI (cI (el v4 v2) 1)]])])
    .fail)
    .fail)
    (.next [.l v0, .b true, .i (w64 (v2 + (1 : Int))), .s v3, .l v4, .s v5, .l v6, .i v7, .s v8, .l (v9 ++ [[PV.lst 28 v6, pI v7]])]))
    .fail)
    (.test (uI (out r0 0) 0 != (0 : Int))
    (.test (inR v2 (ln v4))
    (.test (decide ((List.length v9 + 1) * 32 ≤ 140737488355328))
    (.next [.l v0, .b v1, .i (w64 (v2 + (1 : Int))), .s v3, .l v4, .s v5, .l v6, .i v7, .s v8, .l (v9 ++ [[PV.lst 28 (cL (el v4 v2) 0), pI (cI (el v4 v2) 1)]])])
    .fail)
    .fail)
    (.next [.l v0, .b v1, .i (w64 (v2 + (1 : Int))), .s v3, .l v4, .s v5, .l v6, .i v7, .s v8, .l v9])))
    (.test (uI (out r0 0) 0 != (0 : Int))
    (.test (inR v2 (ln v4))
    (.test (decide ((List.length v9 + 1) * 32 ≤ 140737488355328))
    (.next [.l v0, .b v1, .i (w64 (v2 + (1 : Int))), .s v3, .l v4, .s v5, .l v6, .i v7, .s v8, .l (v9 ++ [[PV.lst 28 (cL (el v4 v2) 0), pI (cI (el v4 v2) 1)]])])
    .fail)
    .fail)
    (.next [.l v0, .b v1, .i (w64 (v2 + (1 : Int))), .s v3, .l v4, .s v5, .l v6, .i v7, .s v8, .l v9])))
    .fail))
    .fail)
    .fail)
    .fail)
    (.stop 0 [.b v1, .s v5, .l v6, .i v7, .s v8, .l v9]))
  | _ => .fail
def sp_R16_Put_20_7 : LSp := ⟨79, ⟨[(1, .one (.l 28)), (3, .one (.ptr 0 0)), (6, .one (.ptr 1 0)), (7, .one (.ptr 2 0)), (8, .one (.ptr 3 0)), (9, .one (.b)), (10, .one (.i .i64))], [.box 24 [.one (.s), .one (.l 35)], .box 24 [.one (.s), .one (.nils)], .box 35 [.one (.l 28), .one (.i .i64)], .box 24 [.one (.s), .one (.all 4)], .arr 35 true]⟩, [(.exit 0, ⟨[(6, .one (.ptr 0 0)), (7, .one (.ptr 1 0)), (8, .one (.ptr 2 0)), (9, .one (.b))], [.box 24 [.one (.s), .one (.nils)], .box 35 [.one (.l 28), .one (.i .i64)], .box 24 [.one (.s), .one (.all 3)], .arr 35 true]⟩)]⟩
set_option maxRecDepth 100000 in
theorem rq_R16_Put_20_7 (v0 : List (List PV)) (v1 : Bool) (v2 : Int) (v3 : ByteArray) (v4 : List (List PV)) (v5 : ByteArray) (v6 : List (List PV)) (v7 : Int) (v8 : ByteArray) (v9 : List (List PV)) : runK br Try.prog (callK br Try.prog X137 M_R16_Put L_R16_Put (lsT []) 40) M_R16_Put (lsT [] 20 0) 40 0 (L_R16_Put 20) (bodyOf Try.prog 20 7) (sp_R16_Put_20_7.s.ts sp_R16_Put_20_7.n [.l v0, .b v1, .i v2, .s v3, .l v4, .s v5, .l v6, .i v7, .s v8, .l v9]) (sp_R16_Put_20_7.s.h [.l v0, .b v1, .i v2, .s v3, .l v4, .s v5, .l v6, .i v7, .s v8, .l v9]) (idc Try.prog 0 (L_R16_Put 20) 7) =
    (rd_R16_Put_20_7 [.l v0, .b v1, .i v2, .s v3, .l v4, .s v5, .l v6, .i v7, .s v8, .l v9]).go br (fun us' => some (.normal, sp_R16_Put_20_7.s.ts sp_R16_Put_20_7.n us', sp_R16_Put_20_7.s.h us')) sp_R16_Put_20_7.fin := by
  rw [← callF_eq, ← runF_eq]; kernel_rfl
theorem lo_R16_Put_20_7 {R : Type} : LoopTells Try.prog X137 M_R16_Put L_R16_Put 0 (L_R16_Put 20) (bodyOf Try.prog 20 7) (gL (R := R) sp_R16_Put_20_7 rd_R16_Put_20_7 br) :=
  loopTold (callK_ev (loopsOK_list rids noneIn) 40) (lsokIn (loopsOK_list rids noneIn) 20 0 7) (by kernel_rfl) sp_R16_Put_20_7 rd_R16_Put_20_7 rfl (by kernel_rfl) (by
    intro us v h; unfold rd_R16_Put_20_7 at h; split at h
    · rename_i v0 v1 v2 v3 v4 v5 v6 v7 v8 v9; exact rq_R16_Put_20_7 v0 v1 v2 v3 v4 v5 v6 v7 v8 v9
    · cases h)
noncomputable abbrev ll_R16_Put_20_7 {R : Type} : List (Nat × Nat × Nat × Smy R) := (20, 0, 7, gL sp_R16_Put_20_7 rd_R16_Put_20_7 br) :: []
theorem lk_R16_Put_20_7 {R : Type} : ∀ e ∈ ll_R16_Put_20_7 (R := R), LoopTells Try.prog X137 M_R16_Put L_R16_Put e.2.1 (L_R16_Put e.1) (bodyOf Try.prog e.1 e.2.2.1) e.2.2.2 := List.forall_mem_cons.2 ⟨lo_R16_Put_20_7, noneIn⟩
def S_R16_Put : FSp := ⟨[.agg [.s, .l 35], .one (.l 28), .one (.i .i64)], [], [2000071000000], [([.agg [.s, .all 0]], [.arr 35 true])]⟩
noncomputable def m_R16_Put : List U → Rt
  | [.s v0, .l v1, .l v2, .i v3] =>
    (let r0 : Rs := (Rt.res (m_R16_May [U.s v0, U.l v1]))
    (.test (ok r0 0)
    (.test (!uB (out r0 0) 0)
    (.stop 0 [.s ({ data := #[] }), .l []])
    (let r1 : Rs := (Rt.res (m_R16_Right [U.l v2, U.i v3]))
    (.test (ok r1 0)
    (.test (!uB (out r1 0) 0)
    (.stop 0 [.s ({ data := #[] }), .l []])
    (let r2 : Rs := (lres rd_R16_Put_20_7 [U.l v2, U.b false, U.i (0 : Int), U.s v0, U.l v1, U.s { data := #[] }, U.l v2, U.i v3, U.s v0, U.l []])
    (.test (ok r2 0)
    (.test (!uB (out r2 0) 0)
    (.test (decide ((List.length (uL (out r2 0) 5) + 1) * 32 ≤ 140737488355328))
    (.stop 0 [.s (uS (out r2 0) 4), .l (uL (out r2 0) 5 ++ [[PV.lst 28 (uL (out r2 0) 2), pI (uI (out r2 0) 3)]])])
    .fail)
    (.stop 0 [.s (uS (out r2 0) 4), .l (uL (out r2 0) 5)]))
    .fail)))
    .fail)))
    .fail))
  | _ => .fail
set_option maxRecDepth 100000 in
theorem q_R16_Put (v0 : ByteArray) (v1 : List (List PV)) (v2 : List (List PV)) (v3 : Int) : callK br Try.prog X137 M_R16_Put L_R16_Put (lsT ll_R16_Put_20_7) 60 20 (encs [.s v0, .l v1, .l v2, .i v3] 0 S_R16_Put.ap) (encH [.s v0, .l v1, .l v2, .i v3] (ws S_R16_Put.ap) S_R16_Put.ah) (fun y => fixR Try.prog S_R16_Put.plan S_R16_Put.ah.length y) =
    (m_R16_Put [.s v0, .l v1, .l v2, .i v3]).go br (fun _ => none) S_R16_Put.fin := by
  rw [← callF_eq]; kernel_rfl
theorem e_R16_Put : EOK Try.prog 20 (gF S_R16_Put m_R16_Put) :=
  eokTold mixed named x137 (loopsOK_list rids lk_R16_Put_20_7) 60 S_R16_Put m_R16_Put (by
    intro us v h; unfold m_R16_Put at h; split at h
    · rename_i v0 v1 v2 v3; exact q_R16_Put v0 v1 v2 v3
    · cases h) false
noncomputable abbrev X138 : Ext := extT [(20, (gF S_R16_Put m_R16_Put))] X137
theorem x138 : XOK Try.prog X138 := xok1 x137 e_R16_Put

/-- levee/leveeref16.Scan -/
def L_R16_Scan : FuncId → Nat → Option (List Nat) := liveT [(22, 3, [3, 4, 5, 7, 8]), (22, 1000003, [7]), (22, 2000003, [6])]
def M_R16_Scan : FuncId → Bool := fun _ => false
noncomputable def rd_R16_Scan_22_3 : List U → Rt
  | [.i v0, .s v1, .l v2, .i v3, .i v4, .s v5, .i v6, .i v7, .s v8, .l v9] =>
    (.test (decide (v0 < ln v2))
    (let r0 : Rs := (Rt.res (m_R16_May [U.s v1, U.l v2]))
    (.test (ok r0 0)
    (.test (uB (out r0 0) 0)
    (.test (inR v0 (ln v2))
    (.test (inR (0 : Int) (ln (cL (el v2 v0) 0)))
    (let r1 : Rs := (Rt.res (m_R01_Compare [U.i (cI (List.getD (cL (el v2 v0) 0) 0 []) 0), U.i (cI (List.getD (cL (el v2 v0) 0) 0 []) 1), U.s (cS (List.getD (cL (el v2 v0) 0) 0 []) 2), U.i v3, U.i v4, U.s v5]))
    (.test (ok r1 0)
    (.test (decide (uI (out r1 0) 0 ≥ (0 : Int)))
    (let r2 : Rs := (Rt.res (m_R01_Compare [U.i (cI (List.getD (cL (el v2 v0) 0) 0 []) 0), U.i (cI (List.getD (cL (el v2 v0) 0) 0 []) 1), U.s (cS (List.getD (cL (el v2 v0) 0) 0 []) 2), U.i v6, U.i v7, U.s v8]))
    (.test (ok r2 0)
    (.test (decide (uI (out r2 0) 0 < (0 : Int)))
    (.test (inR v0 (ln v2))
    (.test (decide ((List.length v9 + 1) * 32 ≤ 140737488355328))
    (.next [.i (w64 (v0 + (1 : Int))), .s v1, .l v2, .i v3, .i v4, .s v5, .i v6, .i v7, .s v8, .l (v9 ++ [[PV.lst 28 (cL (el v2 v0) 0), pI (cI (el v2 v0) 1)]])])
    .fail)
    .fail)
    (.next [.i (w64 (v0 + (1 : Int))), .s v1, .l v2, .i v3, .i v4, .s v5, .i v6, .i v7, .s v8, .l v9]))
    .fail))
    (.next [.i (w64 (v0 + (1 : Int))), .s v1, .l v2, .i v3, .i v4, .s v5, .i v6, .i v7, .s v8, .l v9]))
    .fail))
    .fail)
    .fail)
    (.stop 0 [.l v9]))
    .fail))
    (.stop 0 [.l v9]))
  | _ => .fail
def sp_R16_Scan_22_3 : LSp := ⟨49, ⟨[(3, .one (.ptr 0 0)), (4, .one (.ptr 1 0)), (5, .one (.ptr 2 0)), (7, .one (.all 3)), (8, .one (.i .i64))], [.box 24 [.one (.s), .one (.l 35)], .box 28 [.one (.i .i64), .one (.i .i64), .one (.s)], .box 28 [.one (.i .i64), .one (.i .i64), .one (.s)], .arr 35 true]⟩, [(.exit 0, ⟨[(7, .one (.all 0))], [.arr 35 true]⟩)]⟩
set_option maxRecDepth 100000 in
theorem rq_R16_Scan_22_3 (v0 : Int) (v1 : ByteArray) (v2 : List (List PV)) (v3 : Int) (v4 : Int) (v5 : ByteArray) (v6 : Int) (v7 : Int) (v8 : ByteArray) (v9 : List (List PV)) : runK br Try.prog (callK br Try.prog X138 M_R16_Scan L_R16_Scan (lsT []) 40) M_R16_Scan (lsT [] 22 0) 40 0 (L_R16_Scan 22) (bodyOf Try.prog 22 3) (sp_R16_Scan_22_3.s.ts sp_R16_Scan_22_3.n [.i v0, .s v1, .l v2, .i v3, .i v4, .s v5, .i v6, .i v7, .s v8, .l v9]) (sp_R16_Scan_22_3.s.h [.i v0, .s v1, .l v2, .i v3, .i v4, .s v5, .i v6, .i v7, .s v8, .l v9]) (idc Try.prog 0 (L_R16_Scan 22) 3) =
    (rd_R16_Scan_22_3 [.i v0, .s v1, .l v2, .i v3, .i v4, .s v5, .i v6, .i v7, .s v8, .l v9]).go br (fun us' => some (.normal, sp_R16_Scan_22_3.s.ts sp_R16_Scan_22_3.n us', sp_R16_Scan_22_3.s.h us')) sp_R16_Scan_22_3.fin := by
  rw [← callF_eq, ← runF_eq]; kernel_rfl
theorem lo_R16_Scan_22_3 {R : Type} : LoopTells Try.prog X138 M_R16_Scan L_R16_Scan 0 (L_R16_Scan 22) (bodyOf Try.prog 22 3) (gL (R := R) sp_R16_Scan_22_3 rd_R16_Scan_22_3 br) :=
  loopTold (callK_ev (loopsOK_list rids noneIn) 40) (lsokIn (loopsOK_list rids noneIn) 22 0 3) (by kernel_rfl) sp_R16_Scan_22_3 rd_R16_Scan_22_3 rfl (by kernel_rfl) (by
    intro us v h; unfold rd_R16_Scan_22_3 at h; split at h
    · rename_i v0 v1 v2 v3 v4 v5 v6 v7 v8 v9; exact rq_R16_Scan_22_3 v0 v1 v2 v3 v4 v5 v6 v7 v8 v9
    · cases h)
noncomputable abbrev ll_R16_Scan_22_3 {R : Type} : List (Nat × Nat × Nat × Smy R) := (22, 0, 3, gL sp_R16_Scan_22_3 rd_R16_Scan_22_3 br) :: []
theorem lk_R16_Scan_22_3 {R : Type} : ∀ e ∈ ll_R16_Scan_22_3 (R := R), LoopTells Try.prog X138 M_R16_Scan L_R16_Scan e.2.1 (L_R16_Scan e.1) (bodyOf Try.prog e.1 e.2.2.1) e.2.2.2 := List.forall_mem_cons.2 ⟨lo_R16_Scan_22_3, noneIn⟩
def S_R16_Scan : FSp := ⟨[.agg [.s, .l 35], .agg [.i .i64, .i .i64, .s], .agg [.i .i64, .i .i64, .s]], [], [], [([.one (.all 0)], [.arr 35 true])]⟩
noncomputable def m_R16_Scan : List U → Rt
  | [.s v0, .l v1, .i v2, .i v3, .s v4, .i v5, .i v6, .s v7] =>
    (let r0 : Rs := (lres rd_R16_Scan_22_3 [U.i (0 : Int), U.s v0, U.l v1, U.i v2, U.i v3, U.s v4, U.i v5, U.i v6, U.s v7, U.l []])
    (.test (ok r0 0)
    (.stop 0 [.l (uL (out r0 0) 0)])
    .fail))
  | _ => .fail
set_option maxRecDepth 100000 in
theorem q_R16_Scan (v0 : ByteArray) (v1 : List (List PV)) (v2 : Int) (v3 : Int) (v4 : ByteArray) (v5 : Int) (v6 : Int) (v7 : ByteArray) : callK br Try.prog X138 M_R16_Scan L_R16_Scan (lsT ll_R16_Scan_22_3) 60 22 (encs [.s v0, .l v1, .i v2, .i v3, .s v4, .i v5, .i v6, .s v7] 0 S_R16_Scan.ap) (encH [.s v0, .l v1, .i v2, .i v3, .s v4, .i v5, .i v6, .s v7] (ws S_R16_Scan.ap) S_R16_Scan.ah) (fun y => fixR Try.prog S_R16_Scan.plan S_R16_Scan.ah.length y) =
    (m_R16_Scan [.s v0, .l v1, .i v2, .i v3, .s v4, .i v5, .i v6, .s v7]).go br (fun _ => none) S_R16_Scan.fin := by
  rw [← callF_eq]; kernel_rfl
theorem e_R16_Scan : EOK Try.prog 22 (gF S_R16_Scan m_R16_Scan) :=
  eokTold mixed named x138 (loopsOK_list rids lk_R16_Scan_22_3) 60 S_R16_Scan m_R16_Scan (by
    intro us v h; unfold m_R16_Scan at h; split at h
    · rename_i v0 v1 v2 v3 v4 v5 v6 v7; exact q_R16_Scan v0 v1 v2 v3 v4 v5 v6 v7
    · cases h) false
noncomputable abbrev X139 : Ext := extT [(22, (gF S_R16_Scan m_R16_Scan))] X138
theorem x139 : XOK Try.prog X139 := xok1 x138 e_R16_Scan

/-- levee/leveeref05.Add -/
def L_R05_Add : FuncId → Nat → Option (List Nat) := liveT [(39, 4, [0, 1, 2, 7, 8, 9]), (39, 1000004, [1, 2, 7, 8]), (39, 2000004, [6])]
def M_R05_Add : FuncId → Bool := fun _ => false
noncomputable def rd_R05_Add_39_4 : List U → Rt
  | [.l v0, .l v1, .i v2, .b v3, .i v4, .l v5] =>
    (.test (decide (v4 < ln v0))
    (.test (inR v4 (ln v0))
    (let r0 : Rs := (Rt.res (m_R02_Compare [U.l (cL (el v0 v4) 0), U.l v1]))
    (.test (ok r0 0)
    (.test (decide (uI (out r0 0) 0 ≥ (0 : Int)))
    (.test (!v3)
    (.test (uI (out r0 0) 0 == (0 : Int))
    (.test (inR v4 (ln v0))
    (.test (w64 (v2 + cI (el v0 v4) 1) != (0 : Int))
    (.test (decide ((List.length v5 + 1) * 32 ≤ 140737488355328))
    (.test (uI (out r0 0) 0 != (0 : Int))
    (.test (inR v4 (ln v0))
    (.test (decide ((List.length (v5 ++ [[PV.lst 28 v1, pI (w64 (v2 + cI (el v0 v4) 1))]]) + 1) * 32 ≤ 140737488355328))
    (.next [.l v0, .l v1, .i v2, .b true, .i (w64 (v4 + (1 : Int))), .l (v5 ++ [[PV.lst 28 v1, pI (w64 (v2 + cI (el v0 v4) 1))]] ++ [[PV.lst 28 (cL (el v0 v4) 0), pI (cI (el v0 v4) 1)]])])
    .fail)
    .fail)
    (.next [.l v0, .l v1, .i v2, .b true, .i (w64 (v4 + (1 : Int))), .l (v5 ++ [[PV.lst 28 v1, pI (w64 (v2 + cI (el v0 v4) 1))]])]))
    .fail)
    (.test (uI (out r0 0) 0 != (0 : Int))
    (.test (inR v4 (ln v0))
    (.test (decide ((List.length v5 + 1) * 32 ≤ 140737488355328))
    (.next [.l v0, .l v1, .i v2, .b true, .i (w64 (v4 + (1 : Int))), .l (v5 ++ [[PV.lst 28 (cL (el v0 v4) 0), pI (cI (el v0 v4) 1)]])])
    .fail)
    .fail)
    (.next [.l v0, .l v1, .i v2, .b true, .i (w64 (v4 + (1 : Int))), .l v5])))
    .fail)
    (.test (v2 != (0 : Int))
    (.test (decide ((List.length v5 + 1) * 32 ≤ 140737488355328))
    (.test (uI (out r0 0) 0 != (0 : Int))
    (.test (inR v4 (ln v0))
    (.test (decide ((List.length (v5 ++ [[PV.lst 28 v1, pI v2]]) + 1) * 32 ≤ 140737488355328))
    (.next [.l v0, .l v1, .i v2, .b true, .i (w64 (v4 + (1 : Int))), .l (v5 ++ [[PV.lst 28 v1, pI v2]] ++ [[PV.lst 28 (cL (el v0 v4) 0), pI (cI (el v0 v4) 1)]])])
    .fail)
    .fail)
    (.next [.l v0, .l v1, .i v2, .b true, .i (w64 (v4 + (1 : Int))), .l (v5 ++ [[PV.lst 28 v1, pI v2]])]))
    .fail)
    (.test (uI (out r0 0) 0 != (0 : Int))
    (.test (inR v4 (ln v0))
    (.test (decide ((List.length v5 + 1) * 32 ≤ 140737488355328))
    (.next [.l v0, .l v1, .i v2, .b true, .i (w64 (v4 + (1 : Int))), .l (v5 ++ [[PV.lst 28 (cL (el v0 v4) 0), pI (cI (el v0 v4) 1)]])])
    .fail)
    .fail)
    (.next [.l v0, .l v1, .i v2, .b true, .i (w64 (v4 + (1 : Int))), .l v5]))))
    (.test (uI (out r0 0) 0 != (0 : Int))
    (.test (inR v4 (ln v0))
    (.test (decide ((List.length v5 + 1) * 32 ≤ 140737488355328))
    (.next [.l v0, .l v1, .i v2, .b v3, .i (w64 (v4 + (1 : Int))), .l (v5 ++ [[PV.lst 28 (cL (el v0 v4) 0), pI (cI (el v0 v4) 1)]])])
    .fail)
    .fail)
    (.next [.l v0, .l v1, .i v2, .b v3, .i (w64 (v4 + (1 : Int))), .l v5])))
    (.test (uI (out r0 0) 0 != (0 : Int))
    (.test (inR v4 (ln v0))
    (.test (decide ((List.length v5 + 1) * 32 ≤ 140737488355328))
    (.next [.l v0, .l v1, .i v2, .b v3, .i (w64 (v4 + (1 : Int))), .l (v5 ++ [[PV.lst 28 (cL (el v0 v4) 0), pI (cI (el v0 v4) 1)]])])
    .fail)
    .fail)
    (.next [.l v0, .l v1, .i v2, .b v3, .i (w64 (v4 + (1 : Int))), .l v5])))
    .fail))
    .fail)
    (.stop 0 [.l v1, .i v2, .b v3, .l v5]))
  | _ => .fail
def sp_R05_Add_39_4 : LSp := ⟨72, ⟨[(0, .one (.l 54)), (1, .one (.l 28)), (2, .one (.i .i64)), (7, .one (.all 0)), (8, .one (.b)), (9, .one (.i .i64))], [.arr 54 true]⟩, [(.exit 0, ⟨[(1, .one (.l 28)), (2, .one (.i .i64)), (7, .one (.all 0)), (8, .one (.b))], [.arr 54 true]⟩)]⟩
set_option maxRecDepth 100000 in
theorem rq_R05_Add_39_4 (v0 : List (List PV)) (v1 : List (List PV)) (v2 : Int) (v3 : Bool) (v4 : Int) (v5 : List (List PV)) : runK br Try.prog (callK br Try.prog X139 M_R05_Add L_R05_Add (lsT []) 40) M_R05_Add (lsT [] 39 0) 40 0 (L_R05_Add 39) (bodyOf Try.prog 39 4) (sp_R05_Add_39_4.s.ts sp_R05_Add_39_4.n [.l v0, .l v1, .i v2, .b v3, .i v4, .l v5]) (sp_R05_Add_39_4.s.h [.l v0, .l v1, .i v2, .b v3, .i v4, .l v5]) (idc Try.prog 0 (L_R05_Add 39) 4) =
    (rd_R05_Add_39_4 [.l v0, .l v1, .i v2, .b v3, .i v4, .l v5]).go br (fun us' => some (.normal, sp_R05_Add_39_4.s.ts sp_R05_Add_39_4.n us', sp_R05_Add_39_4.s.h us')) sp_R05_Add_39_4.fin := by
  rw [← callF_eq, ← runF_eq]; kernel_rfl
theorem lo_R05_Add_39_4 {R : Type} : LoopTells Try.prog X139 M_R05_Add L_R05_Add 0 (L_R05_Add 39) (bodyOf Try.prog 39 4) (gL (R := R) sp_R05_Add_39_4 rd_R05_Add_39_4 br) :=
  loopTold (callK_ev (loopsOK_list rids noneIn) 40) (lsokIn (loopsOK_list rids noneIn) 39 0 4) (by kernel_rfl) sp_R05_Add_39_4 rd_R05_Add_39_4 rfl (by kernel_rfl) (by
    intro us v h; unfold rd_R05_Add_39_4 at h; split at h
    · rename_i v0 v1 v2 v3 v4 v5; exact rq_R05_Add_39_4 v0 v1 v2 v3 v4 v5
    · cases h)
noncomputable abbrev ll_R05_Add_39_4 {R : Type} : List (Nat × Nat × Nat × Smy R) := (39, 0, 4, gL sp_R05_Add_39_4 rd_R05_Add_39_4 br) :: []
theorem lk_R05_Add_39_4 {R : Type} : ∀ e ∈ ll_R05_Add_39_4 (R := R), LoopTells Try.prog X139 M_R05_Add L_R05_Add e.2.1 (L_R05_Add e.1) (bodyOf Try.prog e.1 e.2.2.1) e.2.2.2 := List.forall_mem_cons.2 ⟨lo_R05_Add_39_4, noneIn⟩
def S_R05_Add : FSp := ⟨[.one (.l 54), .one (.l 28), .one (.i .i64)], [], [], [([.one (.all 0)], [.arr 54 true])]⟩
noncomputable def m_R05_Add : List U → Rt
  | [.l v0, .l v1, .i v2] =>
    (let r0 : Rs := (lres rd_R05_Add_39_4 [U.l v0, U.l v1, U.i v2, U.b false, U.i (0 : Int), U.l []])
    (.test (ok r0 0)
    (.test (!uB (out r0 0) 2)
    (.test (uI (out r0 0) 1 != (0 : Int))
    (.test (decide ((List.length (uL (out r0 0) 3) + 1) * 32 ≤ 140737488355328))
    (.stop 0 [.l (uL (out r0 0) 3 ++ [[PV.lst 28 (uL (out r0 0) 0), pI (uI (out r0 0) 1)]])])
    .fail)
    (.stop 0 [.l (uL (out r0 0) 3)]))
    (.stop 0 [.l (uL (out r0 0) 3)]))
    .fail))
  | _ => .fail
set_option maxRecDepth 100000 in
theorem q_R05_Add (v0 : List (List PV)) (v1 : List (List PV)) (v2 : Int) : callK br Try.prog X139 M_R05_Add L_R05_Add (lsT ll_R05_Add_39_4) 60 39 (encs [.l v0, .l v1, .i v2] 0 S_R05_Add.ap) (encH [.l v0, .l v1, .i v2] (ws S_R05_Add.ap) S_R05_Add.ah) (fun y => fixR Try.prog S_R05_Add.plan S_R05_Add.ah.length y) =
    (m_R05_Add [.l v0, .l v1, .i v2]).go br (fun _ => none) S_R05_Add.fin := by
  rw [← callF_eq]; kernel_rfl
theorem e_R05_Add : EOK Try.prog 39 (gF S_R05_Add m_R05_Add) :=
  eokTold mixed named x139 (loopsOK_list rids lk_R05_Add_39_4) 60 S_R05_Add m_R05_Add (by
    intro us v h; unfold m_R05_Add at h; split at h
    · rename_i v0 v1 v2; exact q_R05_Add v0 v1 v2
    · cases h) false
noncomputable abbrev X140 : Ext := extT [(39, (gF S_R05_Add m_R05_Add))] X139
theorem x140 : XOK Try.prog X140 := xok1 x139 e_R05_Add

/-- levee/leveeref16.Bag -/
def L_R16_Bag : FuncId → Nat → Option (List Nat) := liveT [(25, 3, [1, 3, 4]), (25, 1000003, [3]), (25, 2000003, [2])]
def M_R16_Bag : FuncId → Bool := fun _ => false
noncomputable def rd_R16_Bag_25_3 : List U → Rt
  | [.i v0, .s v1, .l v2, .l v3] =>
    (.test (decide (v0 < ln v2))
    (let r0 : Rs := (Rt.res (m_R16_May [U.s v1, U.l v2]))
    (.test (ok r0 0)
    (.test (uB (out r0 0) 0)
    (.test (inR v0 (ln v2))
    (let r1 : Rs := (Rt.res (m_R05_Add [U.l v3, U.l (cL (el v2 v0) 0), U.i (1 : Int)]))
    (.test (ok r1 0)
    (.next [.i (w64 (v0 + (1 : Int))), .s v1, .l v2, .l (uL (out r1 0) 0)])
    .fail))
    .fail)
    (.stop 0 [.l v3]))
    .fail))
    (.stop 0 [.l v3]))
  | _ => .fail
def sp_R16_Bag_25_3 : LSp := ⟨26, ⟨[(1, .one (.ptr 0 0)), (3, .one (.all 1)), (4, .one (.i .i64))], [.box 24 [.one (.s), .one (.l 35)], .arr 54 true]⟩, [(.exit 0, ⟨[(3, .one (.all 0))], [.arr 54 true]⟩)]⟩
set_option maxRecDepth 100000 in
theorem rq_R16_Bag_25_3 (v0 : Int) (v1 : ByteArray) (v2 : List (List PV)) (v3 : List (List PV)) : runK br Try.prog (callK br Try.prog X140 M_R16_Bag L_R16_Bag (lsT []) 40) M_R16_Bag (lsT [] 25 0) 40 0 (L_R16_Bag 25) (bodyOf Try.prog 25 3) (sp_R16_Bag_25_3.s.ts sp_R16_Bag_25_3.n [.i v0, .s v1, .l v2, .l v3]) (sp_R16_Bag_25_3.s.h [.i v0, .s v1, .l v2, .l v3]) (idc Try.prog 0 (L_R16_Bag 25) 3) =
    (rd_R16_Bag_25_3 [.i v0, .s v1, .l v2, .l v3]).go br (fun us' => some (.normal, sp_R16_Bag_25_3.s.ts sp_R16_Bag_25_3.n us', sp_R16_Bag_25_3.s.h us')) sp_R16_Bag_25_3.fin := by
  rw [← callF_eq, ← runF_eq]; kernel_rfl
theorem lo_R16_Bag_25_3 {R : Type} : LoopTells Try.prog X140 M_R16_Bag L_R16_Bag 0 (L_R16_Bag 25) (bodyOf Try.prog 25 3) (gL (R := R) sp_R16_Bag_25_3 rd_R16_Bag_25_3 br) :=
  loopTold (callK_ev (loopsOK_list rids noneIn) 40) (lsokIn (loopsOK_list rids noneIn) 25 0 3) (by kernel_rfl) sp_R16_Bag_25_3 rd_R16_Bag_25_3 rfl (by kernel_rfl) (by
    intro us v h; unfold rd_R16_Bag_25_3 at h; split at h
    · rename_i v0 v1 v2 v3; exact rq_R16_Bag_25_3 v0 v1 v2 v3
    · cases h)
noncomputable abbrev ll_R16_Bag_25_3 {R : Type} : List (Nat × Nat × Nat × Smy R) := (25, 0, 3, gL sp_R16_Bag_25_3 rd_R16_Bag_25_3 br) :: []
theorem lk_R16_Bag_25_3 {R : Type} : ∀ e ∈ ll_R16_Bag_25_3 (R := R), LoopTells Try.prog X140 M_R16_Bag L_R16_Bag e.2.1 (L_R16_Bag e.1) (bodyOf Try.prog e.1 e.2.2.1) e.2.2.2 := List.forall_mem_cons.2 ⟨lo_R16_Bag_25_3, noneIn⟩
def S_R16_Bag : FSp := ⟨[.agg [.s, .l 35]], [], [], [([.one (.all 0)], [.arr 54 true])]⟩
noncomputable def m_R16_Bag : List U → Rt
  | [.s v0, .l v1] =>
    (let r0 : Rs := (lres rd_R16_Bag_25_3 [U.i (0 : Int), U.s v0, U.l v1, U.l []])
    (.test (ok r0 0)
    (.stop 0 [.l (uL (out r0 0) 0)])
    .fail))
  | _ => .fail
set_option maxRecDepth 100000 in
theorem q_R16_Bag (v0 : ByteArray) (v1 : List (List PV)) : callK br Try.prog X140 M_R16_Bag L_R16_Bag (lsT ll_R16_Bag_25_3) 60 25 (encs [.s v0, .l v1] 0 S_R16_Bag.ap) (encH [.s v0, .l v1] (ws S_R16_Bag.ap) S_R16_Bag.ah) (fun y => fixR Try.prog S_R16_Bag.plan S_R16_Bag.ah.length y) =
    (m_R16_Bag [.s v0, .l v1]).go br (fun _ => none) S_R16_Bag.fin := by
  rw [← callF_eq]; kernel_rfl
theorem e_R16_Bag : EOK Try.prog 25 (gF S_R16_Bag m_R16_Bag) :=
  eokTold mixed named x140 (loopsOK_list rids lk_R16_Bag_25_3) 60 S_R16_Bag m_R16_Bag (by
    intro us v h; unfold m_R16_Bag at h; split at h
    · rename_i v0 v1; exact q_R16_Bag v0 v1
    · cases h) false
noncomputable abbrev X141 : Ext := extT [(25, (gF S_R16_Bag m_R16_Bag))] X140
theorem x141 : XOK Try.prog X141 := xok1 x140 e_R16_Bag

/-- levee/leveeref05.Same -/
def L_R05_Same : FuncId → Nat → Option (List Nat) := liveT [(23, 4, [0, 1, 5]), (23, 1000004, []), (23, 2000004, [4])]
def M_R05_Same : FuncId → Bool := fun _ => false
noncomputable def rd_R05_Same_23_4 : List U → Rt
  | [.l v0, .l v1, .i v2] =>
    (.test (decide (v2 < ln v0))
    (.test (inR v2 (ln v0))
    (.test (inR v2 (ln v1))
    (.test (cI (el v0 v2) 1 != cI (el v1 v2) 1)
    (.stop 0 [.b false])
    (.test (inR v2 (ln v0))
    (.test (inR v2 (ln v1))
    (let r0 : Rs := (Rt.res (m_R02_Compare [U.l (cL (el v0 v2) 0), U.l (cL (el v1 v2) 0)]))
    (.test (ok r0 0)
    (.test (uI (out r0 0) 0 != (0 : Int))
    (.stop 0 [.b false])
    (.next [.l v0, .l v1, .i (w64 (v2 + (1 : Int)))]))
    .fail))
    .fail)
    .fail))
    .fail)
    .fail)
    (.stop 1 []))
  | _ => .fail
def sp_R05_Same_23_4 : LSp := ⟨42, ⟨[(0, .one (.l 54)), (1, .one (.l 54)), (5, .one (.i .i64))], []⟩, [(.ret, ⟨[(4, .one (.b))], []⟩), (.exit 0, ⟨[], []⟩)]⟩
set_option maxRecDepth 100000 in
theorem rq_R05_Same_23_4 (v0 : List (List PV)) (v1 : List (List PV)) (v2 : Int) : runK br Try.prog (callK br Try.prog X141 M_R05_Same L_R05_Same (lsT []) 40) M_R05_Same (lsT [] 23 0) 40 0 (L_R05_Same 23) (bodyOf Try.prog 23 4) (sp_R05_Same_23_4.s.ts sp_R05_Same_23_4.n [.l v0, .l v1, .i v2]) (sp_R05_Same_23_4.s.h [.l v0, .l v1, .i v2]) (idc Try.prog 0 (L_R05_Same 23) 4) =
    (rd_R05_Same_23_4 [.l v0, .l v1, .i v2]).go br (fun us' => some (.normal, sp_R05_Same_23_4.s.ts sp_R05_Same_23_4.n us', sp_R05_Same_23_4.s.h us')) sp_R05_Same_23_4.fin := by
  rw [← callF_eq, ← runF_eq]; kernel_rfl
theorem lo_R05_Same_23_4 {R : Type} : LoopTells Try.prog X141 M_R05_Same L_R05_Same 0 (L_R05_Same 23) (bodyOf Try.prog 23 4) (gL (R := R) sp_R05_Same_23_4 rd_R05_Same_23_4 br) :=
  loopTold (callK_ev (loopsOK_list rids noneIn) 40) (lsokIn (loopsOK_list rids noneIn) 23 0 4) (by kernel_rfl) sp_R05_Same_23_4 rd_R05_Same_23_4 rfl (by kernel_rfl) (by
    intro us v h; unfold rd_R05_Same_23_4 at h; split at h
    · rename_i v0 v1 v2; exact rq_R05_Same_23_4 v0 v1 v2
    · cases h)
noncomputable abbrev ll_R05_Same_23_4 {R : Type} : List (Nat × Nat × Nat × Smy R) := (23, 0, 4, gL sp_R05_Same_23_4 rd_R05_Same_23_4 br) :: []
theorem lk_R05_Same_23_4 {R : Type} : ∀ e ∈ ll_R05_Same_23_4 (R := R), LoopTells Try.prog X141 M_R05_Same L_R05_Same e.2.1 (L_R05_Same e.1) (bodyOf Try.prog e.1 e.2.2.1) e.2.2.2 := List.forall_mem_cons.2 ⟨lo_R05_Same_23_4, noneIn⟩
def S_R05_Same : FSp := ⟨[.one (.l 54), .one (.l 54)], [], [], [([.one (.b)], [])]⟩
noncomputable def m_R05_Same : List U → Rt
  | [.l v0, .l v1] =>
    (.test (ln v0 != ln v1)
    (.stop 0 [.b false])
    (let r0 : Rs := (lres rd_R05_Same_23_4 [U.l v0, U.l v1, U.i (0 : Int)])
    (.test (ok r0 0)
    (.stop 0 [.b (uB (out r0 0) 0)])
    (.test (ok r0 1)
    (.stop 0 [.b true])
    .fail))))
  | _ => .fail
set_option maxRecDepth 100000 in
theorem q_R05_Same (v0 : List (List PV)) (v1 : List (List PV)) : callK br Try.prog X141 M_R05_Same L_R05_Same (lsT ll_R05_Same_23_4) 60 23 (encs [.l v0, .l v1] 0 S_R05_Same.ap) (encH [.l v0, .l v1] (ws S_R05_Same.ap) S_R05_Same.ah) (fun y => fixR Try.prog S_R05_Same.plan S_R05_Same.ah.length y) =
    (m_R05_Same [.l v0, .l v1]).go br (fun _ => none) S_R05_Same.fin := by
  rw [← callF_eq]; kernel_rfl
theorem e_R05_Same : EOK Try.prog 23 (gF S_R05_Same m_R05_Same) :=
  eokTold mixed named x141 (loopsOK_list rids lk_R05_Same_23_4) 60 S_R05_Same m_R05_Same (by
    intro us v h; unfold m_R05_Same at h; split at h
    · rename_i v0 v1; exact q_R05_Same v0 v1
    · cases h) false
noncomputable abbrev X142 : Ext := extT [(23, (gF S_R05_Same m_R05_Same))] X141
theorem x142 : XOK Try.prog X142 := xok1 x141 e_R05_Same

/-- levee/leveelaw16.RelTells -/
def L_L16_RelTells : FuncId → Nat → Option (List Nat) := liveT []
def M_L16_RelTells : FuncId → Bool := fun _ => false
def S_L16_RelTells : FSp := ⟨[.agg [.s, .l 35], .agg [.l 28, .i .i64, .i .i64, .i .i64, .s, .i .i64, .i .i64, .s]], [], [], [([.one (.b)], [])]⟩
noncomputable def m_L16_RelTells : List U → Rt
  | [.s v0, .l v1, .l v2, .i v3, .i v4, .i v5, .s v6, .i v7, .i v8, .s v9] =>
    (let r0 : Rs := (Rt.res (m_R16_Small [U.s v0, U.l v1]))
    (.test (ok r0 0)
    (.test (!uB (out r0 0) 0)
    (.stop 0 [.b true])
    (let r1 : Rs := (Rt.res (m_R02_Short [U.l v2]))
    (.test (ok r1 0)
    (.test (!uB (out r1 0) 0)
    (.stop 0 [.b true])
    (let r2 : Rs := (Rt.res (m_rel_Get [U.s v0, U.l v1, U.i v4, U.i v5, U.s v6]))
    (.test (ok r2 0)
    (let r3 : Rs := (Rt.res (m_R16_Get [U.s v0, U.l v1, U.i v4, U.i v5, U.s v6]))
    (.test (ok r3 0)
    (let r4 : Rs := (Rt.res (m_rel_Cut [U.s v0, U.l v1, U.i v4, U.i v5, U.s v6]))
    (.test (ok r4 0)
    (let r5 : Rs := (Rt.res (m_R16_Cut [U.s v0, U.l v1, U.i v4, U.i v5, U.s v6]))
    (.test (ok r5 0)
    (let r6 : Rs := (Rt.res (m_rel_May [U.s v0, U.l v1]))
    (.test (ok r6 0)
    (let r7 : Rs := (Rt.res (m_R16_May [U.s v0, U.l v1]))
    (.test (ok r7 0)
    (.test (!uB (out r6 0) 0 == uB (out r7 0) 0)
    (.stop 0 [.b false])
    (let r8 : Rs := (Rt.res (m_R16_SameRecs [U.l [[PV.lst 28 (uL (out r2 0) 2), pI (uI (out r2 0) 0)]], U.l [[PV.lst 28 (uL (out r3 0) 0), pI (uI (out r3 0) 1)]]]))
    (.test (ok r8 0)
    (.test (!uB (out r8 0) 0)
    (.stop 0 [.b false])
    (.test (!uB (out r2 0) 1 == uB (out r3 0) 2)
    (.stop 0 [.b false])
    (let r9 : Rs := (Rt.res (m_R16_Same [U.s (uS (out r4 0) 0), U.l (uL (out r4 0) 2), U.s (uS (out r5 0) 0), U.l (uL (out r5 0) 2)]))
    (.test (ok r9 0)
    (.test (!uB (out r9 0) 0)
    (.stop 0 [.b false])
    (.test (!uB (out r4 0) 1 == uB (out r5 0) 1)
    (.stop 0 [.b false])
    (let r10 : Rs := (Rt.res (m_rel_Put [U.s v0, U.l v1, U.l v2, U.i v3]))
    (.test (ok r10 0)
    (let r11 : Rs := (Rt.res (m_R16_Put [U.s v0, U.l v1, U.l v2, U.i v3]))
    (.test (ok r11 0)
    (let r12 : Rs := (Rt.res (m_R16_Same [U.s (uS (out r10 0) 0), U.l (uL (out r10 0) 1), U.s (uS (out r11 0) 0), U.l (uL (out r11 0) 1)]))
    (.test (ok r12 0)
    (.test (uB (out r12 0) 0)
    (let r13 : Rs := (Rt.res (m_rel_Scan [U.s v0, U.l v1, U.i v4, U.i v5, U.s v6, U.i v7, U.i v8, U.s v9]))
    (.test (ok r13 0)
    (let r14 : Rs := (Rt.res (m_R16_Scan [U.s v0, U.l v1, U.i v4, U.i v5, U.s v6, U.i v7, U.i v8, U.s v9]))
    (.test (ok r14 0)
    (let r15 : Rs := (Rt.res (m_R16_SameRecs [U.l (uL (out r13 0) 0), U.l (uL (out r14 0) 0)]))
    (.test (ok r15 0)
    (.test (uB (out r15 0) 0)
    (let r16 : Rs := (Rt.res (m_rel_Bag [U.s v0, U.l v1]))
    (.test (ok r16 0)
    (let r17 : Rs := (Rt.res (m_R16_Bag [U.s v0, U.l v1]))
    (.test (ok r17 0)
    (let r18 : Rs := (Rt.res (m_R05_Same [U.l (uL (out r16 0) 0), U.l (uL (out r17 0) 0)]))
    (.test (ok r18 0)
    (.stop 0 [.b (uB (out r18 0) 0)])
    .fail))
    .fail))
    .fail))
    (.stop 0 [.b false]))
    .fail))
    .fail))
    .fail))
    (.stop 0 [.b false]))
    .fail))
    .fail))
    .fail))))
    .fail))))
    .fail)))
    .fail))
    .fail))
    .fail))
    .fail))
    .fail))
    .fail)))
    .fail)))
    .fail))
  | _ => .fail
set_option maxRecDepth 100000 in
theorem q_L16_RelTells (v0 : ByteArray) (v1 : List (List PV)) (v2 : List (List PV)) (v3 : Int) (v4 : Int) (v5 : Int) (v6 : ByteArray) (v7 : Int) (v8 : Int) (v9 : ByteArray) : callK br Try.prog X142 M_L16_RelTells L_L16_RelTells (lsT []) 60 3 (encs [.s v0, .l v1, .l v2, .i v3, .i v4, .i v5, .s v6, .i v7, .i v8, .s v9] 0 S_L16_RelTells.ap) (encH [.s v0, .l v1, .l v2, .i v3, .i v4, .i v5, .s v6, .i v7, .i v8, .s v9] (ws S_L16_RelTells.ap) S_L16_RelTells.ah) (fun y => fixR Try.prog S_L16_RelTells.plan S_L16_RelTells.ah.length y) =
    (m_L16_RelTells [.s v0, .l v1, .l v2, .i v3, .i v4, .i v5, .s v6, .i v7, .i v8, .s v9]).go br (fun _ => none) S_L16_RelTells.fin := by
  rw [← callF_eq]; kernel_rfl
theorem e_L16_RelTells : EOK Try.prog 3 (gF S_L16_RelTells m_L16_RelTells) :=
  eokTold mixed named x142 (loopsOK_list rids noneIn) 60 S_L16_RelTells m_L16_RelTells (by
    intro us v h; unfold m_L16_RelTells at h; split at h
    · rename_i v0 v1 v2 v3 v4 v5 v6 v7 v8 v9; exact q_L16_RelTells v0 v1 v2 v3 v4 v5 v6 v7 v8 v9
    · cases h) false
noncomputable abbrev X143 : Ext := extT [(3, (gF S_L16_RelTells m_L16_RelTells))] X142
theorem x143 : XOK Try.prog X143 := xok1 x142 e_L16_RelTells

/-- levee/leveelaw16.RelPuts -/
def L_L16_RelPuts : FuncId → Nat → Option (List Nat) := liveT []
def M_L16_RelPuts : FuncId → Bool := fun _ => false
def S_L16_RelPuts : FSp := ⟨[.agg [.s, .l 35], .agg [.l 28, .i .i64, .i .i64, .i .i64, .s, .i .i64, .i .i64, .s]], [], [], [([.one (.b)], [])]⟩
noncomputable def m_L16_RelPuts : List U → Rt
  | [.s v0, .l v1, .l v2, .i v3, .i v4, .i v5, .s v6, .i v7, .i v8, .s v9] =>
    (let r0 : Rs := (Rt.res (m_R16_Small [U.s v0, U.l v1]))
    (.test (ok r0 0)
    (.test (!uB (out r0 0) 0)
    (.stop 0 [.b true])
    (let r1 : Rs := (Rt.res (m_R16_May [U.s v0, U.l v1]))
    (.test (ok r1 0)
    (.test (!uB (out r1 0) 0)
    (.stop 0 [.b true])
    (let r2 : Rs := (Rt.res (m_R16_Right [U.l v2, U.i v3]))
    (.test (ok r2 0)
    (.test (!uB (out r2 0) 0)
    (.stop 0 [.b true])
    (.test (inR (0 : Int) (ln v2))
    (let r3 : Rs := (Rt.res (m_rel_Put [U.s v0, U.l v1, U.l v2, U.i v3]))
    (.test (ok r3 0)
    (let r4 : Rs := (Rt.res (m_rel_Get [U.s (uS (out r3 0) 0), U.l (uL (out r3 0) 1), U.i (cI (List.getD v2 0 []) 0), U.i (cI (List.getD v2 0 []) 1), U.s (cS (List.getD v2 0 []) 2)]))
    (.test (ok r4 0)
    (let r5 : Rs := (Rt.res (m_rel_Cut [U.s (uS (out r3 0) 0), U.l (uL (out r3 0) 1), U.i (cI (List.getD v2 0 []) 0), U.i (cI (List.getD v2 0 []) 1), U.s (cS (List.getD v2 0 []) 2)]))
    (.test (ok r5 0)
    (let r6 : Rs := (Rt.res (m_rel_Get [U.s (uS (out r5 0) 0), U.l (uL (out r5 0) 2), U.i (cI (List.getD v2 0 []) 0), U.i (cI (List.getD v2 0 []) 1), U.s (cS (List.getD v2 0 []) 2)]))
    (.test (ok r6 0)
    (.test (!uB (out r4 0) 1)
    (.stop 0 [.b false])
    (.test (uI (out r4 0) 0 != v3)
    (.stop 0 [.b false])
    (let r7 : Rs := (Rt.res (m_R02_Compare [U.l (uL (out r4 0) 2), U.l v2]))
    (.test (ok r7 0)
    (.test (uI (out r7 0) 0 != (0 : Int))
    (.stop 0 [.b false])
    (.test (!uB (out r5 0) 1)
    (.stop 0 [.b false])
    (.test (uB (out r6 0) 1)
    (.stop 0 [.b false])
    (let r8 : Rs := (Rt.res (m_rel_May [U.s (uS (out r3 0) 0), U.l (uL (out r3 0) 1)]))
    (.test (ok r8 0)
    (.test (!uB (out r8 0) 0)
    (.stop 0 [.b false])
    (let r9 : Rs := (Rt.res (m_rel_May [U.s (uS (out r5 0) 0), U.l (uL (out r5 0) 2)]))
    (.test (ok r9 0)
    (.test (!uB (out r9 0) 0)
    (.stop 0 [.b false])
    (.test (!(v4 == cI (List.getD v2 0 []) 0 && (v5 == cI (List.getD v2 0 []) 1 && (ByteArray.toList v6 == ByteArray.toList (cS (List.getD v2 0 []) 2) && true))))
    (let r10 : Rs := (Rt.res (m_rel_Get [U.s v0, U.l v1, U.i v4, U.i v5, U.s v6]))
    (.test (ok r10 0)
    (let r11 : Rs := (Rt.res (m_rel_Get [U.s (uS (out r3 0) 0), U.l (uL (out r3 0) 1), U.i v4, U.i v5, U.s v6]))
    (.test (ok r11 0)
    (let r12 : Rs := (Rt.res (m_rel_Get [U.s (uS (out r5 0) 0), U.l (uL (out r5 0) 2), U.i v4, U.i v5, U.s v6]))
    (.test (ok r12 0)
    (.test (!uB (out r10 0) 1 == uB (out r11 0) 1)
    (.stop 0 [.b false])
    (.test (!uB (out r11 0) 1 == uB (out r12 0) 1)
    (.stop 0 [.b false])
    (let r13 : Rs := (Rt.res (m_R16_SameRecs [U.l [[PV.lst 28 (uL (out r10 0) 2), pI (uI (out r10 0) 0)], [PV.lst 28 (uL (out r10 0) 2), pI (uI (out r10 0) 0)]], U.l [[PV.lst 28 (uL (out r11 0) 2), pI (uI (out r11 0) 0)], [PV.lst 28 (uL (out r12 0) 2), pI (uI (out r12 0) 0)]]]))
    (.test (ok r13 0)
    (.test (!uB (out r13 0) 0)
    (.stop 0 [.b false])
    (let r14 : Rs := (Rt.res (m_rel_Cut [U.s v0, U.l v1, U.i (cI (List.getD v2 0 []) 0), U.i (cI (List.getD v2 0 []) 1), U.s (cS (List.getD v2 0 []) 2)]))
    (.test (ok r14 0)
    (.test (!uB (out r14 0) 1)
    (let r15 : Rs := (Rt.res (m_R16_Same [U.s (uS (out r5 0) 0), U.l (uL (out r5 0) 2), U.s v0, U.l v1]))
    (.test (ok r15 0)
    (.stop 0 [.b (uB (out r15 0) 0)])
    .fail))
    (let r16 : Rs := (Rt.res (m_R16_Same [U.s (uS (out r5 0) 0), U.l (uL (out r5 0) 2), U.s (uS (out r14 0) 0), U.l (uL (out r14 0) 2)]))
    (.test (ok r16 0)
    (.stop 0 [.b (uB (out r16 0) 0)])
    .fail)))
    .fail)))
    .fail))))
    .fail))
    .fail))
    .fail))
    (let r17 : Rs := (Rt.res (m_rel_Cut [U.s v0, U.l v1, U.i (cI (List.getD v2 0 []) 0), U.i (cI (List.getD v2 0 []) 1), U.s (cS (List.getD v2 0 []) 2)]))
    (.test (ok r17 0)
    (.test (!uB (out r17 0) 1)
    (let r18 : Rs := (Rt.res (m_R16_Same [U.s (uS (out r5 0) 0), U.l (uL (out r5 0) 2), U.s v0, U.l v1]))
    (.test (ok r18 0)
    (.stop 0 [.b (uB (out r18 0) 0)])
    .fail))
    (let r19 : Rs := (Rt.res (m_R16_Same [U.s (uS (out r5 0) 0), U.l (uL (out r5 0) 2), U.s (uS (out r17 0) 0), U.l (uL (out r17 0) 2)]))
    (.test (ok r19 0)
    (.stop 0 [.b (uB (out r19 0) 0)])
    .fail)))
    .fail))))
    .fail)))
    .fail)))))
    .fail))))
    .fail))
    .fail))
    .fail))
    .fail))
    .fail))
    .fail)))
    .fail)))
    .fail))
  | _ => .fail
set_option maxRecDepth 100000 in
theorem q_L16_RelPuts (v0 : ByteArray) (v1 : List (List PV)) (v2 : List (List PV)) (v3 : Int) (v4 : Int) (v5 : Int) (v6 : ByteArray) (v7 : Int) (v8 : Int) (v9 : ByteArray) : callK br Try.prog X143 M_L16_RelPuts L_L16_RelPuts (lsT []) 60 4 (encs [.s v0, .l v1, .l v2, .i v3, .i v4, .i v5, .s v6, .i v7, .i v8, .s v9] 0 S_L16_RelPuts.ap) (encH [.s v0, .l v1, .l v2, .i v3, .i v4, .i v5, .s v6, .i v7, .i v8, .s v9] (ws S_L16_RelPuts.ap) S_L16_RelPuts.ah) (fun y => fixR Try.prog S_L16_RelPuts.plan S_L16_RelPuts.ah.length y) =
    (m_L16_RelPuts [.s v0, .l v1, .l v2, .i v3, .i v4, .i v5, .s v6, .i v7, .i v8, .s v9]).go br (fun _ => none) S_L16_RelPuts.fin := by
  rw [← callF_eq]; kernel_rfl
theorem e_L16_RelPuts : EOK Try.prog 4 (gF S_L16_RelPuts m_L16_RelPuts) :=
  eokTold mixed named x143 (loopsOK_list rids noneIn) 60 S_L16_RelPuts m_L16_RelPuts (by
    intro us v h; unfold m_L16_RelPuts at h; split at h
    · rename_i v0 v1 v2 v3 v4 v5 v6 v7 v8 v9; exact q_L16_RelPuts v0 v1 v2 v3 v4 v5 v6 v7 v8 v9
    · cases h) false
noncomputable abbrev X144 : Ext := extT [(4, (gF S_L16_RelPuts m_L16_RelPuts))] X143
theorem x144 : XOK Try.prog X144 := xok1 x143 e_L16_RelPuts

/-- levee/leveelaw16.RelScans -/
def L_L16_RelScans : FuncId → Nat → Option (List Nat) := liveT [(5, 6, [2, 8, 9, 10, 11]), (5, 1000006, [2, 8, 9, 10]), (5, 2000006, [4]), (5, 16, [2, 8, 9, 10, 14, 15, 16]), (5, 1000016, [2, 8, 9, 10, 14]), (5, 2000016, [4])]
def M_L16_RelScans : FuncId → Bool := fun _ => false
noncomputable def rd_L16_RelScans_5_6 : List U → Rt
  | [.i v0, .s v1, .l v2, .l v3, .l v4, .l v5] =>
    (.test (decide (v0 < ln v5))
    (.test (inR v0 (ln v5))
    (.test (decide (Int.toNat v0 < List.length v5))
    (.test (ln (cL (el v5 v0) 0) == (0 : Int))
    (.stop 0 [.b false])
    (.test (inR v0 (ln v5))
    (.test (decide (Int.toNat v0 < List.length v5))
    (.test (inR (0 : Int) (ln (cL (el v5 v0) 0)))
    (let r0 : Rs := (Rt.res (m_rel_Get [U.s v1, U.l v2, U.i (cI (List.getD (cL (el v5 v0) 0) 0 []) 0), U.i (cI (List.getD (cL (el v5 v0) 0) 0 []) 1), U.s (cS (List.getD (cL (el v5 v0) 0) 0 []) 2)]))
    (.test (ok r0 0)
    (.test (!uB (out r0 0) 1)
    (.stop 0 [.b false])
    (.test (decide ((0 : Int) ≤ v0 ∧ v0 ≤ w64 (v0 + (1 : Int)) ∧ w64 (v0 + (1 : Int)) ≤ ln v5))
    (.test (decide (Int.toNat v0 + (Int.toNat (w64 (v0 + (1 : Int))) - Int.toNat v0) ≤ List.length v5))
    (let r1 : Rs := (Rt.res (m_R16_SameRecs [U.l [[PV.lst 28 (uL (out r0 0) 2), pI (uI (out r0 0) 0)]], U.l (List.take (Int.toNat (w64 (v0 + (1 : Int))) - Int.toNat v0) (List.drop (Int.toNat v0) v5))]))
    (.test (ok r1 0)
    (.test (!uB (out r1 0) 0)
    (.stop 0 [.b false])
    (.next [.i (w64 (v0 + (1 : Int))), .s v1, .l v2, .l v3, .l v4, .l v5]))
    .fail))
    .fail)
    .fail))
    .fail))
    .fail)
    .fail)
    .fail))
    .fail)
    .fail)
    (.stop 1 [.s v1, .l v2, .l v3, .l v4, .l v5]))
  | _ => .fail
def sp_L16_RelScans_5_6 : LSp := ⟨127, ⟨[(2, .one (.ptr 0 0)), (8, .one (.all 1)), (9, .one (.all 2)), (10, .one (.all 3)), (11, .one (.i .i64))], [.box 24 [.one (.s), .one (.l 35)], .arr 35 true, .arr 35 true, .arr 35 true]⟩, [(.ret, ⟨[(4, .one (.b))], []⟩), (.exit 0, ⟨[(2, .one (.ptr 0 0)), (8, .one (.all 1)), (9, .one (.all 2)), (10, .one (.all 3))], [.box 24 [.one (.s), .one (.l 35)], .arr 35 true, .arr 35 true, .arr 35 true]⟩)]⟩
set_option maxRecDepth 100000 in
theorem rq_L16_RelScans_5_6 (v0 : Int) (v1 : ByteArray) (v2 : List (List PV)) (v3 : List (List PV)) (v4 : List (List PV)) (v5 : List (List PV)) : runK br Try.prog (callK br Try.prog X144 M_L16_RelScans L_L16_RelScans (lsT []) 40) M_L16_RelScans (lsT [] 5 0) 40 0 (L_L16_RelScans 5) (bodyOf Try.prog 5 6) (sp_L16_RelScans_5_6.s.ts sp_L16_RelScans_5_6.n [.i v0, .s v1, .l v2, .l v3, .l v4, .l v5]) (sp_L16_RelScans_5_6.s.h [.i v0, .s v1, .l v2, .l v3, .l v4, .l v5]) (idc Try.prog 0 (L_L16_RelScans 5) 6) =
    (rd_L16_RelScans_5_6 [.i v0, .s v1, .l v2, .l v3, .l v4, .l v5]).go br (fun us' => some (.normal, sp_L16_RelScans_5_6.s.ts sp_L16_RelScans_5_6.n us', sp_L16_RelScans_5_6.s.h us')) sp_L16_RelScans_5_6.fin := by
  rw [← callF_eq, ← runF_eq]; kernel_rfl
theorem lo_L16_RelScans_5_6 {R : Type} : LoopTells Try.prog X144 M_L16_RelScans L_L16_RelScans 0 (L_L16_RelScans 5) (bodyOf Try.prog 5 6) (gL (R := R) sp_L16_RelScans_5_6 rd_L16_RelScans_5_6 br) :=
  loopTold (callK_ev (loopsOK_list rids noneIn) 40) (lsokIn (loopsOK_list rids noneIn) 5 0 6) (by kernel_rfl) sp_L16_RelScans_5_6 rd_L16_RelScans_5_6 rfl (by kernel_rfl) (by
    intro us v h; unfold rd_L16_RelScans_5_6 at h; split at h
    · rename_i v0 v1 v2 v3 v4 v5; exact rq_L16_RelScans_5_6 v0 v1 v2 v3 v4 v5
    · cases h)
noncomputable abbrev ll_L16_RelScans_5_6 {R : Type} : List (Nat × Nat × Nat × Smy R) := (5, 0, 6, gL sp_L16_RelScans_5_6 rd_L16_RelScans_5_6 br) :: []
theorem lk_L16_RelScans_5_6 {R : Type} : ∀ e ∈ ll_L16_RelScans_5_6 (R := R), LoopTells Try.prog X144 M_L16_RelScans L_L16_RelScans e.2.1 (L_L16_RelScans e.1) (bodyOf Try.prog e.1 e.2.2.1) e.2.2.2 := List.forall_mem_cons.2 ⟨lo_L16_RelScans_5_6, noneIn⟩
noncomputable def rd_L16_RelScans_5_16 : List U → Rt
  | [.i v0, .i v1, .s v2, .l v3, .l v4, .l v5, .l v6, .l v7] =>
    (.test (decide (v1 < ln v7))
    (.test (inR v1 (ln v7))
    (.test (decide (Int.toNat v1 < List.length v7))
    (.next [.i (w64 (v0 + cI (el v7 v1) 1)), .i (w64 (v1 + (1 : Int))), .s v2, .l v3, .l v4, .l v5, .l v6, .l v7])
    .fail)
    .fail)
    (.stop 0 [.i v0, .s v2, .l v3, .l v4, .l v5, .l v6]))
  | _ => .fail
def sp_L16_RelScans_5_16 : LSp := ⟨127, ⟨[(2, .one (.ptr 0 0)), (8, .one (.all 1)), (9, .one (.all 2)), (10, .one (.all 3)), (14, .one (.i .i64)), (15, .one (.all 4)), (16, .one (.i .i64))], [.box 24 [.one (.s), .one (.l 35)], .arr 35 true, .arr 35 true, .arr 35 true, .arr 54 true]⟩, [(.exit 2, ⟨[(2, .one (.ptr 0 0)), (8, .one (.all 1)), (9, .one (.all 2)), (10, .one (.all 3)), (14, .one (.i .i64))], [.box 24 [.one (.s), .one (.l 35)], .arr 35 true, .arr 35 true, .arr 35 true]⟩)]⟩
set_option maxRecDepth 100000 in
theorem rq_L16_RelScans_5_16 (v0 : Int) (v1 : Int) (v2 : ByteArray) (v3 : List (List PV)) (v4 : List (List PV)) (v5 : List (List PV)) (v6 : List (List PV)) (v7 : List (List PV)) : runK br Try.prog (callK br Try.prog X144 M_L16_RelScans L_L16_RelScans (lsT ll_L16_RelScans_5_6) 40) M_L16_RelScans (lsT ll_L16_RelScans_5_6 5 0) 40 0 (L_L16_RelScans 5) (bodyOf Try.prog 5 16) (sp_L16_RelScans_5_16.s.ts sp_L16_RelScans_5_16.n [.i v0, .i v1, .s v2, .l v3, .l v4, .l v5, .l v6, .l v7]) (sp_L16_RelScans_5_16.s.h [.i v0, .i v1, .s v2, .l v3, .l v4, .l v5, .l v6, .l v7]) (idc Try.prog 0 (L_L16_RelScans 5) 16) =
    (rd_L16_RelScans_5_16 [.i v0, .i v1, .s v2, .l v3, .l v4, .l v5, .l v6, .l v7]).go br (fun us' => some (.normal, sp_L16_RelScans_5_16.s.ts sp_L16_RelScans_5_16.n us', sp_L16_RelScans_5_16.s.h us')) sp_L16_RelScans_5_16.fin := by
  rw [← callF_eq, ← runF_eq]; kernel_rfl
theorem lo_L16_RelScans_5_16 {R : Type} : LoopTells Try.prog X144 M_L16_RelScans L_L16_RelScans 0 (L_L16_RelScans 5) (bodyOf Try.prog 5 16) (gL (R := R) sp_L16_RelScans_5_16 rd_L16_RelScans_5_16 br) :=
  loopTold (callK_ev (loopsOK_list rids lk_L16_RelScans_5_6) 40) (lsokIn (loopsOK_list rids lk_L16_RelScans_5_6) 5 0 16) (by kernel_rfl) sp_L16_RelScans_5_16 rd_L16_RelScans_5_16 rfl (by kernel_rfl) (by
    intro us v h; unfold rd_L16_RelScans_5_16 at h; split at h
    · rename_i v0 v1 v2 v3 v4 v5 v6 v7; exact rq_L16_RelScans_5_16 v0 v1 v2 v3 v4 v5 v6 v7
    · cases h)
noncomputable abbrev ll_L16_RelScans_5_16 {R : Type} : List (Nat × Nat × Nat × Smy R) := (5, 0, 16, gL sp_L16_RelScans_5_16 rd_L16_RelScans_5_16 br) :: ll_L16_RelScans_5_6
theorem lk_L16_RelScans_5_16 {R : Type} : ∀ e ∈ ll_L16_RelScans_5_16 (R := R), LoopTells Try.prog X144 M_L16_RelScans L_L16_RelScans e.2.1 (L_L16_RelScans e.1) (bodyOf Try.prog e.1 e.2.2.1) e.2.2.2 := List.forall_mem_cons.2 ⟨lo_L16_RelScans_5_16, lk_L16_RelScans_5_6⟩
def S_L16_RelScans : FSp := ⟨[.agg [.s, .l 35], .agg [.i .i64, .i .i64, .s, .i .i64, .i .i64, .s, .i .i64, .i .i64, .s]], [], [], [([.one (.b)], [])]⟩
noncomputable def m_L16_RelScans : List U → Rt
  | [.s v0, .l v1, .i v2, .i v3, .s v4, .i v5, .i v6, .s v7, .i v8, .i v9, .s v10] =>
    (let r0 : Rs := (Rt.res (m_R16_Small [U.s v0, U.l v1]))
    (.test (ok r0 0)
    (.test (!uB (out r0 0) 0)
    (.stop 0 [.b true])
    (let r1 : Rs := (Rt.res (m_R16_May [U.s v0, U.l v1]))
    (.test (ok r1 0)
    (.test (!uB (out r1 0) 0)
    (.stop 0 [.b true])
    (let r2 : Rs := (Rt.res (m_R01_Compare [U.i v2, U.i v3, U.s v4, U.i v5, U.i v6, U.s v7]))
    (.test (ok r2 0)
    (.test (decide (uI (out r2 0) 0 > (0 : Int)))
    (.stop 0 [.b true])
    (let r3 : Rs := (Rt.res (m_R01_Compare [U.i v5, U.i v6, U.s v7, U.i v8, U.i v9, U.s v10]))
    (.test (ok r3 0)
    (.test (decide (uI (out r3 0) 0 > (0 : Int)))
    (.stop 0 [.b true])
    (let r4 : Rs := (Rt.res (m_rel_Scan [U.s v0, U.l v1, U.i v2, U.i v3, U.s v4, U.i v5, U.i v6, U.s v7]))
    (.test (ok r4 0)
    (let r5 : Rs := (Rt.res (m_rel_Scan [U.s v0, U.l v1, U.i v5, U.i v6, U.s v7, U.i v8, U.i v9, U.s v10]))
    (.test (ok r5 0)
    (let r6 : Rs := (Rt.res (m_rel_Scan [U.s v0, U.l v1, U.i v2, U.i v3, U.s v4, U.i v8, U.i v9, U.s v10]))
    (.test (ok r6 0)
    (let r7 : Rs := (lres rd_L16_RelScans_5_6 [U.i (0 : Int), U.s v0, U.l v1, U.l (uL (out r4 0) 0), U.l (uL (out r5 0) 0), U.l (uL (out r6 0) 0)])
    (.test (ok r7 0)
    (.stop 0 [.b (uB (out r7 0) 0)])
    (.test (ok r7 1)
    (let r8 : Rs := (Rt.res (m_rel_Bag [U.s (uS (out r7 1) 0), U.l (uL (out r7 1) 1)]))
    (.test (ok r8 0)
    (let r9 : Rs := (lres rd_L16_RelScans_5_16 [U.i (0 : Int), U.i (0 : Int), U.s (uS (out r7 1) 0), U.l (uL (out r7 1) 1), U.l (uL (out r7 1) 2), U.l (uL (out r7 1) 3), U.l (uL (out r7 1) 4), U.l (uL (out r8 0) 0)])
    (.test (ok r9 0)
    (.test (decide ((0 + List.length (uL (out r9 0) 3)) * 32 ≤ 140737488355328))
    (.test (decide ((List.length ([] ++ uL (out r9 0) 3) + List.length (uL (out r9 0) 4)) * 32 ≤ 140737488355328))
    (let r10 : Rs := (Rt.res (m_R16_SameRecs [U.l ([] ++ uL (out r9 0) 3 ++ uL (out r9 0) 4), U.l (uL (out r9 0) 5)]))
    (.test (ok r10 0)
    (.test (uB (out r10 0) 0)
    (.stop 0 [.b (uI (out r9 0) 0 == ln (uL (out r9 0) 2))])
    (.stop 0 [.b false]))
    .fail))
    .fail)
    .fail)
    .fail))
    .fail))
    .fail)))
    .fail))
    .fail))
    .fail)))
    .fail)))
    .fail)))
    .fail)))
    .fail))
  | _ => .fail
set_option maxRecDepth 100000 in
theorem q_L16_RelScans (v0 : ByteArray) (v1 : List (List PV)) (v2 : Int) (v3 : Int) (v4 : ByteArray) (v5 : Int) (v6 : Int) (v7 : ByteArray) (v8 : Int) (v9 : Int) (v10 : ByteArray) : callK br Try.prog X144 M_L16_RelScans L_L16_RelScans (lsT ll_L16_RelScans_5_16) 60 5 (encs [.s v0, .l v1, .i v2, .i v3, .s v4, .i v5, .i v6, .s v7, .i v8, .i v9, .s v10] 0 S_L16_RelScans.ap) (encH [.s v0, .l v1, .i v2, .i v3, .s v4, .i v5, .i v6, .s v7, .i v8, .i v9, .s v10] (ws S_L16_RelScans.ap) S_L16_RelScans.ah) (fun y => fixR Try.prog S_L16_RelScans.plan S_L16_RelScans.ah.length y) =
    (m_L16_RelScans [.s v0, .l v1, .i v2, .i v3, .s v4, .i v5, .i v6, .s v7, .i v8, .i v9, .s v10]).go br (fun _ => none) S_L16_RelScans.fin := by
  rw [← callF_eq]; kernel_rfl
theorem e_L16_RelScans : EOK Try.prog 5 (gF S_L16_RelScans m_L16_RelScans) :=
  eokTold mixed named x144 (loopsOK_list rids lk_L16_RelScans_5_16) 60 S_L16_RelScans m_L16_RelScans (by
    intro us v h; unfold m_L16_RelScans at h; split at h
    · rename_i v0 v1 v2 v3 v4 v5 v6 v7 v8 v9 v10; exact q_L16_RelScans v0 v1 v2 v3 v4 v5 v6 v7 v8 v9 v10
    · cases h) false
noncomputable abbrev X145 : Ext := extT [(5, (gF S_L16_RelScans m_L16_RelScans))] X144
theorem x145 : XOK Try.prog X145 := xok1 x144 e_L16_RelScans

/-- levee/leveelaw16.RelTwice -/
def L_L16_RelTwice : FuncId → Nat → Option (List Nat) := liveT []
def M_L16_RelTwice : FuncId → Bool := fun _ => false
def S_L16_RelTwice : FSp := ⟨[.agg [.s, .l 35], .agg [.l 28, .i .i64, .i .i64, .i .i64, .s, .i .i64, .i .i64, .s], .agg [.l 28, .i .i64, .i .i64, .i .i64, .s, .i .i64, .i .i64, .s]], [], [], [([.one (.b)], [])]⟩
noncomputable def m_L16_RelTwice : List U → Rt
  | [.s v0, .l v1, .l v2, .i v3, .i v4, .i v5, .s v6, .i v7, .i v8, .s v9, .l v10, .i v11, .i v12, .i v13, .s v14, .i v15, .i v16, .s v17] =>
    (let r0 : Rs := (Rt.res (m_R16_Small [U.s v0, U.l v1]))
    (.test (ok r0 0)
    (.test (!uB (out r0 0) 0)
    (.stop 0 [.b true])
    (let r1 : Rs := (Rt.res (m_R16_May [U.s v0, U.l v1]))
    (.test (ok r1 0)
    (.test (!uB (out r1 0) 0)
    (.stop 0 [.b true])
    (let r2 : Rs := (Rt.res (m_R16_Right [U.l v2, U.i v3]))
    (.test (ok r2 0)
    (.test (!uB (out r2 0) 0)
    (.stop 0 [.b true])
    (let r3 : Rs := (Rt.res (m_R16_Right [U.l v10, U.i v11]))
    (.test (ok r3 0)
    (.test (!uB (out r3 0) 0)
    (.stop 0 [.b true])
    (let r4 : Rs := (Rt.res (m_rel_Put [U.s v0, U.l v1, U.l v2, U.i v3]))
    (.test (ok r4 0)
    (let r5 : Rs := (Rt.res (m_rel_Put [U.s (uS (out r4 0) 0), U.l (uL (out r4 0) 1), U.l v10, U.i v11]))
    (.test (ok r5 0)
    (let r6 : Rs := (Rt.res (m_rel_Put [U.s v0, U.l v1, U.l v10, U.i v11]))
    (.test (ok r6 0)
    (let r7 : Rs := (Rt.res (m_rel_Put [U.s (uS (out r6 0) 0), U.l (uL (out r6 0) 1), U.l v2, U.i v3]))
    (.test (ok r7 0)
    (.test (inR (0 : Int) (ln v2))
    (.test (inR (0 : Int) (ln v10))
    (.test (cI (List.getD v2 0 []) 0 == cI (List.getD v10 0 []) 0 && (cI (List.getD v2 0 []) 1 == cI (List.getD v10 0 []) 1 && (ByteArray.toList (cS (List.getD v2 0 []) 2) == ByteArray.toList (cS (List.getD v10 0 []) 2) && true)))
    (let r8 : Rs := (Rt.res (m_rel_Put [U.s v0, U.l v1, U.l v10, U.i v11]))
    (.test (ok r8 0)
    (let r9 : Rs := (Rt.res (m_R16_Same [U.s (uS (out r5 0) 0), U.l (uL (out r5 0) 1), U.s (uS (out r8 0) 0), U.l (uL (out r8 0) 1)]))
    (.test (ok r9 0)
    (.stop 0 [.b (uB (out r9 0) 0)])
    .fail))
    .fail))
    (let r10 : Rs := (Rt.res (m_R16_Same [U.s (uS (out r5 0) 0), U.l (uL (out r5 0) 1), U.s (uS (out r7 0) 0), U.l (uL (out r7 0) 1)]))
    (.test (ok r10 0)
    (.stop 0 [.b (uB (out r10 0) 0)])
    .fail)))
    .fail)
    .fail)
    .fail))
    .fail))
    .fail))
    .fail)))
    .fail)))
    .fail)))
    .fail)))
    .fail))
  | _ => .fail
set_option maxRecDepth 100000 in
theorem q_L16_RelTwice (v0 : ByteArray) (v1 : List (List PV)) (v2 : List (List PV)) (v3 : Int) (v4 : Int) (v5 : Int) (v6 : ByteArray) (v7 : Int) (v8 : Int) (v9 : ByteArray) (v10 : List (List PV)) (v11 : Int) (v12 : Int) (v13 : Int) (v14 : ByteArray) (v15 : Int) (v16 : Int) (v17 : ByteArray) : callK br Try.prog X145 M_L16_RelTwice L_L16_RelTwice (lsT []) 60 6 (encs [.s v0, .l v1, .l v2, .i v3, .i v4, .i v5, .s v6, .i v7, .i v8, .s v9, .l v10, .i v11, .i v12, .i v13, .s v14, .i v15, .i v16, .s v17] 0 S_L16_RelTwice.ap) (encH [.s v0, .l v1, .l v2, .i v3, .i v4, .i v5, .s v6, .i v7, .i v8, .s v9, .l v10, .i v11, .i v12, .i v13, .s v14, .i v15, .i v16, .s v17] (ws S_L16_RelTwice.ap) S_L16_RelTwice.ah) (fun y => fixR Try.prog S_L16_RelTwice.plan S_L16_RelTwice.ah.length y) =
    (m_L16_RelTwice [.s v0, .l v1, .l v2, .i v3, .i v4, .i v5, .s v6, .i v7, .i v8, .s v9, .l v10, .i v11, .i v12, .i v13, .s v14, .i v15, .i v16, .s v17]).go br (fun _ => none) S_L16_RelTwice.fin := by
  rw [← callF_eq]; kernel_rfl
theorem e_L16_RelTwice : EOK Try.prog 6 (gF S_L16_RelTwice m_L16_RelTwice) :=
  eokTold mixed named x145 (loopsOK_list rids noneIn) 60 S_L16_RelTwice m_L16_RelTwice (by
    intro us v h; unfold m_L16_RelTwice at h; split at h
    · rename_i v0 v1 v2 v3 v4 v5 v6 v7 v8 v9 v10 v11 v12 v13 v14 v15 v16 v17; exact q_L16_RelTwice v0 v1 v2 v3 v4 v5 v6 v7 v8 v9 v10 v11 v12 v13 v14 v15 v16 v17
    · cases h) false
noncomputable abbrev X146 : Ext := extT [(6, (gF S_L16_RelTwice m_L16_RelTwice))] X145
theorem x146 : XOK Try.prog X146 := xok1 x145 e_L16_RelTwice

/-- levee/leveelaw16.RelMany -/
def L_L16_RelMany : FuncId → Nat → Option (List Nat) := liveT [(7, 5, [0, 1, 5, 6] ++ [2000071000005]), (7, 1000005, [0, 1, 5]), (7, 2000005, [4]), (7, 11, [0, 1, 5, 7] ++ [2000072000005]), (7, 1000011, [5]), (7, 2000011, [4])]
def M_L16_RelMany : FuncId → Bool := fun _ => false
noncomputable def rd_L16_RelMany_7_5 : List U → Rt
  | [.i v0, .i v1, .i v2, .s v3, .l v4] =>
    (.test (decide (v2 < v0))
    (let r0 : Rs := (Rt.res (m_rel_Put [U.s v3, U.l v4, U.l [[pI (2 : Int), pI (Int.tmod (w64 (v2 * v1)) (61 : Int)), pS { data := #[] }]], U.i (w64 (v2 + (1 : Int)))]))
    (.test (ok r0 0)
    (.next [.i v0, .i v1, .i (w64 (v2 + (1 : Int))), .s (uS (out r0 0) 0), .l (uL (out r0 0) 1)])
    .fail))
    (.stop 0 [.i v0, .i v1, .s v3, .l v4]))
  | _ => .fail
def sp_L16_RelMany_7_5 : LSp := ⟨81, ⟨[(0, .one (.i .i64)), (1, .one (.i .i64)), (5, .one (.ptr 0 0)), (6, .one (.i .i64))], [.box 24 [.one (.s), .one (.all 1)], .arr 35 true]⟩, [(.exit 0, ⟨[(0, .one (.i .i64)), (1, .one (.i .i64)), (5, .one (.ptr 0 0))], [.box 24 [.one (.s), .one (.all 1)], .arr 35 true]⟩)]⟩
set_option maxRecDepth 100000 in
theorem rq_L16_RelMany_7_5 (v0 : Int) (v1 : Int) (v2 : Int) (v3 : ByteArray) (v4 : List (List PV)) : runK br Try.prog (callK br Try.prog X146 M_L16_RelMany L_L16_RelMany (lsT []) 40) M_L16_RelMany (lsT [] 7 0) 40 0 (L_L16_RelMany 7) (bodyOf Try.prog 7 5) (sp_L16_RelMany_7_5.s.ts sp_L16_RelMany_7_5.n [.i v0, .i v1, .i v2, .s v3, .l v4]) (sp_L16_RelMany_7_5.s.h [.i v0, .i v1, .i v2, .s v3, .l v4]) (idc Try.prog 0 (L_L16_RelMany 7) 5) =
    (rd_L16_RelMany_7_5 [.i v0, .i v1, .i v2, .s v3, .l v4]).go br (fun us' => some (.normal, sp_L16_RelMany_7_5.s.ts sp_L16_RelMany_7_5.n us', sp_L16_RelMany_7_5.s.h us')) sp_L16_RelMany_7_5.fin := by
  rw [← callF_eq, ← runF_eq]; kernel_rfl
theorem lo_L16_RelMany_7_5 {R : Type} : LoopTells Try.prog X146 M_L16_RelMany L_L16_RelMany 0 (L_L16_RelMany 7) (bodyOf Try.prog 7 5) (gL (R := R) sp_L16_RelMany_7_5 rd_L16_RelMany_7_5 br) :=
  loopTold (callK_ev (loopsOK_list rids noneIn) 40) (lsokIn (loopsOK_list rids noneIn) 7 0 5) (by kernel_rfl) sp_L16_RelMany_7_5 rd_L16_RelMany_7_5 rfl (by kernel_rfl) (by
    intro us v h; unfold rd_L16_RelMany_7_5 at h; split at h
    · rename_i v0 v1 v2 v3 v4; exact rq_L16_RelMany_7_5 v0 v1 v2 v3 v4
    · cases h)
noncomputable abbrev ll_L16_RelMany_7_5 {R : Type} : List (Nat × Nat × Nat × Smy R) := (7, 0, 5, gL sp_L16_RelMany_7_5 rd_L16_RelMany_7_5 br) :: []
theorem lk_L16_RelMany_7_5 {R : Type} : ∀ e ∈ ll_L16_RelMany_7_5 (R := R), LoopTells Try.prog X146 M_L16_RelMany L_L16_RelMany e.2.1 (L_L16_RelMany e.1) (bodyOf Try.prog e.1 e.2.2.1) e.2.2.2 := List.forall_mem_cons.2 ⟨lo_L16_RelMany_7_5, noneIn⟩
noncomputable def rd_L16_RelMany_7_11 : List U → Rt
  | [.i v0, .i v1, .i v2, .s v3, .l v4] =>
    (.test (decide (v2 < v0))
    (let r0 : Rs := (Rt.res (m_rel_Cut [U.s v3, U.l v4, U.i (2 : Int), U.i (Int.tmod (w64 (v2 * v1)) (61 : Int)), U.s { data := #[] }]))
    (.test (ok r0 0)
    (.test (uB (out r0 0) 1)
    (.next [.i v0, .i v1, .i (w64 (v2 + (1 : Int))), .s (uS (out r0 0) 0), .l (uL (out r0 0) 2)])
    (.next [.i v0, .i v1, .i (w64 (v2 + (1 : Int))), .s v3, .l v4]))
    .fail))
    (.stop 0 [.s v3, .l v4]))
  | _ => .fail
def sp_L16_RelMany_7_11 : LSp := ⟨81, ⟨[(0, .one (.i .i64)), (1, .one (.i .i64)), (5, .one (.ptr 0 0)), (7, .one (.i .i64))], [.box 24 [.one (.s), .one (.l 35)]]⟩, [(.exit 2, ⟨[(5, .one (.ptr 0 0))], [.box 24 [.one (.s), .one (.l 35)]]⟩)]⟩
set_option maxRecDepth 100000 in
theorem rq_L16_RelMany_7_11 (v0 : Int) (v1 : Int) (v2 : Int) (v3 : ByteArray) (v4 : List (List PV)) : runK br Try.prog (callK br Try.prog X146 M_L16_RelMany L_L16_RelMany (lsT ll_L16_RelMany_7_5) 40) M_L16_RelMany (lsT ll_L16_RelMany_7_5 7 0) 40 0 (L_L16_RelMany 7) (bodyOf Try.prog 7 11) (sp_L16_RelMany_7_11.s.ts sp_L16_RelMany_7_11.n [.i v0, .i v1, .i v2, .s v3, .l v4]) (sp_L16_RelMany_7_11.s.h [.i v0, .i v1, .i v2, .s v3, .l v4]) (idc Try.prog 0 (L_L16_RelMany 7) 11) =
    (rd_L16_RelMany_7_11 [.i v0, .i v1, .i v2, .s v3, .l v4]).go br (fun us' => some (.normal, sp_L16_RelMany_7_11.s.ts sp_L16_RelMany_7_11.n us', sp_L16_RelMany_7_11.s.h us')) sp_L16_RelMany_7_11.fin := by
  rw [← callF_eq, ← runF_eq]; kernel_rfl
theorem lo_L16_RelMany_7_11 {R : Type} : LoopTells Try.prog X146 M_L16_RelMany L_L16_RelMany 0 (L_L16_RelMany 7) (bodyOf Try.prog 7 11) (gL (R := R) sp_L16_RelMany_7_11 rd_L16_RelMany_7_11 br) :=
  loopTold (callK_ev (loopsOK_list rids lk_L16_RelMany_7_5) 40) (lsokIn (loopsOK_list rids lk_L16_RelMany_7_5) 7 0 11) (by kernel_rfl) sp_L16_RelMany_7_11 rd_L16_RelMany_7_11 rfl (by kernel_rfl) (by
    intro us v h; unfold rd_L16_RelMany_7_11 at h; split at h
    · rename_i v0 v1 v2 v3 v4; exact rq_L16_RelMany_7_11 v0 v1 v2 v3 v4
    · cases h)
noncomputable abbrev ll_L16_RelMany_7_11 {R : Type} : List (Nat × Nat × Nat × Smy R) := (7, 0, 11, gL sp_L16_RelMany_7_11 rd_L16_RelMany_7_11 br) :: ll_L16_RelMany_7_5
theorem lk_L16_RelMany_7_11 {R : Type} : ∀ e ∈ ll_L16_RelMany_7_11 (R := R), LoopTells Try.prog X146 M_L16_RelMany L_L16_RelMany e.2.1 (L_L16_RelMany e.1) (bodyOf Try.prog e.1 e.2.2.1) e.2.2.2 := List.forall_mem_cons.2 ⟨lo_L16_RelMany_7_11, lk_L16_RelMany_7_5⟩
def S_L16_RelMany : FSp := ⟨[.one (.i .i64), .one (.i .i64)], [], [], [([.one (.b)], [])]⟩
noncomputable def m_L16_RelMany : List U → Rt
  | [.i v0, .i v1] =>
    (.test (decide (v0 < (0 : Int)))
    (.stop 0 [.b true])
    (.test (decide (v0 > (60 : Int)))
    (.stop 0 [.b true])
    (.test (decide (v1 < (1 : Int)))
    (.stop 0 [.b true])
    (.test (decide (v1 > (1000 : Int)))
    (.stop 0 [.b true])
    (let r0 : Rs := (lres rd_L16_RelMany_7_5 [U.i v0, U.i v1, U.i (0 : Int), U.s { data := #[] }, U.l []])
    (.test (ok r0 0)
    (.test (Int.tmod (uI (out r0 0) 1) (61 : Int) != (0 : Int))
    (.test (ln (uL (out r0 0) 3) != uI (out r0 0) 0)
    (.stop 0 [.b false])
    (let r1 : Rs := (Rt.res (m_rel_May [U.s (uS (out r0 0) 2), U.l (uL (out r0 0) 3)]))
    (.test (ok r1 0)
    (.test (!uB (out r1 0) 0)
    (.stop 0 [.b false])
    (let r2 : Rs := (lres rd_L16_RelMany_7_11 [U.i (uI (out r0 0) 0), U.i (uI (out r0 0) 1), U.i (0 : Int), U.s (uS (out r0 0) 2), U.l (uL (out r0 0) 3)])
    (.test (ok r2 0)
    (.stop 0 [.b (ln (uL (out r2 0) 1) == (0 : Int))])
    .fail)))
    .fail)))
    (let r3 : Rs := (Rt.res (m_rel_May [U.s (uS (out r0 0) 2), U.l (uL (out r0 0) 3)]))
    (.test (ok r3 0)
    (.test (!uB (out r3 0) 0)
    (.stop 0 [.b false])
    (let r4 : Rs := (lres rd_L16_RelMany_7_11 [U.i (uI (out r0 0) 0), U.i (uI (out r0 0) 1), U.i (0 : Int), U.s (uS (out r0 0) 2), U.l (uL (out r0 0) 3)])
    (.test (ok r4 0)
    (.stop 0 [.b (ln (uL (out r4 0) 1) == (0 : Int))])
    .fail)))
    .fail)))
    .fail))))))
  | _ => .fail
set_option maxRecDepth 100000 in
theorem q_L16_RelMany (v0 : Int) (v1 : Int) : callK br Try.prog X146 M_L16_RelMany L_L16_RelMany (lsT ll_L16_RelMany_7_11) 60 7 (encs [.i v0, .i v1] 0 S_L16_RelMany.ap) (encH [.i v0, .i v1] (ws S_L16_RelMany.ap) S_L16_RelMany.ah) (fun y => fixR Try.prog S_L16_RelMany.plan S_L16_RelMany.ah.length y) =
    (m_L16_RelMany [.i v0, .i v1]).go br (fun _ => none) S_L16_RelMany.fin := by
  rw [← callF_eq]; kernel_rfl
theorem e_L16_RelMany : EOK Try.prog 7 (gF S_L16_RelMany m_L16_RelMany) :=
  eokTold mixed named x146 (loopsOK_list rids lk_L16_RelMany_7_11) 60 S_L16_RelMany m_L16_RelMany (by
    intro us v h; unfold m_L16_RelMany at h; split at h
    · rename_i v0 v1; exact q_L16_RelMany v0 v1
    · cases h) false
noncomputable abbrev X147 : Ext := extT [(7, (gF S_L16_RelMany m_L16_RelMany))] X146
theorem x147 : XOK Try.prog X147 := xok1 x146 e_L16_RelMany

end Go.Proofs.Ytinnnhiaamjjlaa






