/- Told functions: printed. -/
import Derived.Test.YtfjjionebffekaaKB
set_option linter.unusedVariables false
namespace Go.Proofs.Ytfjjionebffekaa
open Go Go.Pu

/-- levee/leveeref02.Short -/
def L_R02_Short : FuncId → Nat → Option (List Nat) := liveT [(36, 2, [0, 3]), (36, 1000002, [0]), (36, 2000002, [2])]
def M_R02_Short : FuncId → Bool := fun _ => false
noncomputable def rd_R02_Short_36_2 : List U → Rt
  | [.l v0, .i v1] =>
    (.test (decide (v1 < ln v0))
    (.test (inR v1 (ln v0))
    (.test (decide ((↑(ByteArray.size (cS (el v0 v1) 2)) : Int) > (1000 : Int)))
    (.stop 0 [.b false])
    (.next [.l v0, .i (w64 (v1 + (1 : Int)))]))
    .fail)
    (.stop 1 [.l v0]))
  | _ => .fail
def sp_R02_Short_36_2 : LSp := ⟨20, ⟨[(0, .one (.l 24)), (3, .one (.i .i64))], []⟩, [(.ret, ⟨[(2, .one (.b))], []⟩), (.exit 0, ⟨[(0, .one (.l 24))], []⟩)]⟩
set_option maxRecDepth 100000 in
theorem rq_R02_Short_36_2 (v0 : List (List PV)) (v1 : Int) : runK br Try.prog (callK br Try.prog XB M_R02_Short L_R02_Short (lsT []) 40) M_R02_Short (lsT [] 36 0) 40 0 (L_R02_Short 36) (bodyOf Try.prog 36 2) (sp_R02_Short_36_2.s.ts sp_R02_Short_36_2.n [.l v0, .i v1]) (sp_R02_Short_36_2.s.h [.l v0, .i v1]) (idc Try.prog 0 (L_R02_Short 36) 2) =
    (rd_R02_Short_36_2 [.l v0, .i v1]).go br (fun us' => some (.normal, sp_R02_Short_36_2.s.ts sp_R02_Short_36_2.n us', sp_R02_Short_36_2.s.h us')) sp_R02_Short_36_2.fin := by
  rw [← callF_eq, ← runF_eq]; kernel_rfl
theorem lo_R02_Short_36_2 {R : Type} : LoopTells Try.prog XB M_R02_Short L_R02_Short 0 (L_R02_Short 36) (bodyOf Try.prog 36 2) (gL (R := R) sp_R02_Short_36_2 rd_R02_Short_36_2 br) :=
  loopTold (callK_ev (loopsOK_list rids noneIn) 40) (lsokIn (loopsOK_list rids noneIn) 36 0 2) (by kernel_rfl) sp_R02_Short_36_2 rd_R02_Short_36_2 rfl (by kernel_rfl) (by
    intro us v h; unfold rd_R02_Short_36_2 at h; split at h
    · rename_i v0 v1; exact rq_R02_Short_36_2 v0 v1
    · cases h)
noncomputable abbrev ll_R02_Short_36_2 {R : Type} : List (Nat × Nat × Nat × Smy R) := (36, 0, 2, gL sp_R02_Short_36_2 rd_R02_Short_36_2 br) :: []
theorem lk_R02_Short_36_2 {R : Type} : ∀ e ∈ ll_R02_Short_36_2 (R := R), LoopTells Try.prog XB M_R02_Short L_R02_Short e.2.1 (L_R02_Short e.1) (bodyOf Try.prog e.1 e.2.2.1) e.2.2.2 := List.forall_mem_cons.2 ⟨lo_R02_Short_36_2, noneIn⟩
def S_R02_Short : FSp := ⟨[.one (.l 24)], [], [], [([.one (.b)], [])]⟩
noncomputable def m_R02_Short : List U → Rt
  | [.l v0] =>
    (let r0 : Rs := (lres rd_R02_Short_36_2 [U.l v0, U.i (0 : Int)])
    (.test (ok r0 0)
    (.stop 0 [.b (uB (out r0 0) 0)])
    (.test (ok r0 1)
    (.stop 0 [.b (decide (ln (uL (out r0 1) 0) ≤ (40 : Int)))])
    .fail)))
  | _ => .fail
set_option maxRecDepth 100000 in
theorem q_R02_Short (v0 : List (List PV)) : callK br Try.prog XB M_R02_Short L_R02_Short (lsT ll_R02_Short_36_2) 60 36 (encs [.l v0] 0 S_R02_Short.ap) (encH [.l v0] (ws S_R02_Short.ap) S_R02_Short.ah) (fun y => fixR Try.prog S_R02_Short.plan S_R02_Short.ah.length y) =
    (m_R02_Short [.l v0]).go br (fun _ => none) S_R02_Short.fin := by
  rw [← callF_eq]; kernel_rfl
theorem e_R02_Short : EOK Try.prog 36 (gF S_R02_Short m_R02_Short) :=
  eokTold mixed named xB (loopsOK_list rids lk_R02_Short_36_2) 60 S_R02_Short m_R02_Short (by
    intro us v h; unfold m_R02_Short at h; split at h
    · rename_i v0; exact q_R02_Short v0
    · cases h) false
noncomputable abbrev X1 : Ext := extT [(36, (gF S_R02_Short m_R02_Short))] XB
theorem x1 : XOK Try.prog X1 := xok1 xB e_R02_Short

/-- levee/leveeref16.Small -/
def L_R16_Small : FuncId → Nat → Option (List Nat) := liveT [(28, 2, [1, 3]), (28, 1000002, [1]), (28, 2000002, [2])]
def M_R16_Small : FuncId → Bool := fun _ => false
noncomputable def rd_R16_Small_28_2 : List U → Rt
  | [.i v0, .s v1, .l v2] =>
    (.test (decide (v0 < ln v2))
    (.test (inR v0 (ln v2))
    (let r0 : Rs := (Rt.res (m_R02_Short [U.l (cL (el v2 v0) 0)]))
    (.test (ok r0 0)
    (.test (!uB (out r0 0) 0)
    (.stop 0 [.b false])
    (.next [.i (w64 (v0 + (1 : Int))), .s v1, .l v2]))
    .fail))
    .fail)
    (.stop 1 [.s v1, .l v2]))
  | _ => .fail
def sp_R16_Small_28_2 : LSp := ⟨29, ⟨[(1, .one (.ptr 0 0)), (3, .one (.i .i64))], [.box 40 [.one (.s), .one (.l 59)]]⟩, [(.ret, ⟨[(2, .one (.b))], []⟩), (.exit 0, ⟨[(1, .one (.ptr 0 0))], [.box 40 [.one (.s), .one (.l 59)]]⟩)]⟩
set_option maxRecDepth 100000 in
theorem rq_R16_Small_28_2 (v0 : Int) (v1 : ByteArray) (v2 : List (List PV)) : runK br Try.prog (callK br Try.prog X1 M_R16_Small L_R16_Small (lsT []) 40) M_R16_Small (lsT [] 28 0) 40 0 (L_R16_Small 28) (bodyOf Try.prog 28 2) (sp_R16_Small_28_2.s.ts sp_R16_Small_28_2.n [.i v0, .s v1, .l v2]) (sp_R16_Small_28_2.s.h [.i v0, .s v1, .l v2]) (idc Try.prog 0 (L_R16_Small 28) 2) =
    (rd_R16_Small_28_2 [.i v0, .s v1, .l v2]).go br (fun us' => some (.normal, sp_R16_Small_28_2.s.ts sp_R16_Small_28_2.n us', sp_R16_Small_28_2.s.h us')) sp_R16_Small_28_2.fin := by
  rw [← callF_eq, ← runF_eq]; kernel_rfl
theorem lo_R16_Small_28_2 {R : Type} : LoopTells Try.prog X1 M_R16_Small L_R16_Small 0 (L_R16_Small 28) (bodyOf Try.prog 28 2) (gL (R := R) sp_R16_Small_28_2 rd_R16_Small_28_2 br) :=
  loopTold (callK_ev (loopsOK_list rids noneIn) 40) (lsokIn (loopsOK_list rids noneIn) 28 0 2) (by kernel_rfl) sp_R16_Small_28_2 rd_R16_Small_28_2 rfl (by kernel_rfl) (by
    intro us v h; unfold rd_R16_Small_28_2 at h; split at h
    · rename_i v0 v1 v2; exact rq_R16_Small_28_2 v0 v1 v2
    · cases h)
noncomputable abbrev ll_R16_Small_28_2 {R : Type} : List (Nat × Nat × Nat × Smy R) := (28, 0, 2, gL sp_R16_Small_28_2 rd_R16_Small_28_2 br) :: []
theorem lk_R16_Small_28_2 {R : Type} : ∀ e ∈ ll_R16_Small_28_2 (R := R), LoopTells Try.prog X1 M_R16_Small L_R16_Small e.2.1 (L_R16_Small e.1) (bodyOf Try.prog e.1 e.2.2.1) e.2.2.2 := List.forall_mem_cons.2 ⟨lo_R16_Small_28_2, noneIn⟩
def S_R16_Small : FSp := ⟨[.agg [.s, .l 59]], [], [], [([.one (.b)], [])]⟩
noncomputable def m_R16_Small : List U → Rt
  | [.s v0, .l v1] =>
    (let r0 : Rs := (lres rd_R16_Small_28_2 [U.i (0 : Int), U.s v0, U.l v1])
    (.test (ok r0 0)
    (.stop 0 [.b (uB (out r0 0) 0)])
    (.test (ok r0 1)
    (.test (decide (ln (uL (out r0 1) 1) ≤ (60 : Int)))
    (.stop 0 [.b (decide ((↑(ByteArray.size (uS (out r0 1) 0)) : Int) ≤ (100 : Int)))])
    (.stop 0 [.b false]))
    .fail)))
  | _ => .fail
set_option maxRecDepth 100000 in
theorem q_R16_Small (v0 : ByteArray) (v1 : List (List PV)) : callK br Try.prog X1 M_R16_Small L_R16_Small (lsT ll_R16_Small_28_2) 60 28 (encs [.s v0, .l v1] 0 S_R16_Small.ap) (encH [.s v0, .l v1] (ws S_R16_Small.ap) S_R16_Small.ah) (fun y => fixR Try.prog S_R16_Small.plan S_R16_Small.ah.length y) =
    (m_R16_Small [.s v0, .l v1]).go br (fun _ => none) S_R16_Small.fin := by
  rw [← callF_eq]; kernel_rfl
theorem e_R16_Small : EOK Try.prog 28 (gF S_R16_Small m_R16_Small) :=
  eokTold mixed named x1 (loopsOK_list rids lk_R16_Small_28_2) 60 S_R16_Small m_R16_Small (by
    intro us v h; unfold m_R16_Small at h; split at h
    · rename_i v0 v1; exact q_R16_Small v0 v1
    · cases h) false
noncomputable abbrev X2 : Ext := extT [(28, (gF S_R16_Small m_R16_Small))] X1
theorem x2 : XOK Try.prog X2 := xok1 x1 e_R16_Small

/-- levee/leveeref20.Small -/
def L_R20_Small : FuncId → Nat → Option (List Nat) := liveT [(13, 2, [0, 3]), (13, 1000002, [0]), (13, 2000002, [2])]
def M_R20_Small : FuncId → Bool := fun _ => false
noncomputable def rd_R20_Small_13_2 : List U → Rt
  | [.l v0, .i v1] =>
    (.test (decide (v1 < ln v0))
    (.test (inR v1 (ln v0))
    (let r0 : Rs := (Rt.res (m_R16_Small [U.s (cS (el v0 v1) 0), U.l (cL (el v0 v1) 1)]))
    (.test (ok r0 0)
    (.test (!uB (out r0 0) 0)
    (.stop 0 [.b false])
    (.test (inR v1 (ln v0))
    (.test (decide (ln (cL (el v0 v1) 1) > (20 : Int)))
    (.stop 0 [.b false])
    (.next [.l v0, .i (w64 (v1 + (1 : Int)))]))
    .fail))
    .fail))
    .fail)
    (.stop 1 [.l v0]))
  | _ => .fail
def sp_R20_Small_13_2 : LSp := ⟨28, ⟨[(0, .one (.l 40)), (3, .one (.i .i64))], []⟩, [(.ret, ⟨[(2, .one (.b))], []⟩), (.exit 0, ⟨[(0, .one (.l 40))], []⟩)]⟩
set_option maxRecDepth 100000 in
theorem rq_R20_Small_13_2 (v0 : List (List PV)) (v1 : Int) : runK br Try.prog (callK br Try.prog X2 M_R20_Small L_R20_Small (lsT []) 40) M_R20_Small (lsT [] 13 0) 40 0 (L_R20_Small 13) (bodyOf Try.prog 13 2) (sp_R20_Small_13_2.s.ts sp_R20_Small_13_2.n [.l v0, .i v1]) (sp_R20_Small_13_2.s.h [.l v0, .i v1]) (idc Try.prog 0 (L_R20_Small 13) 2) =
    (rd_R20_Small_13_2 [.l v0, .i v1]).go br (fun us' => some (.normal, sp_R20_Small_13_2.s.ts sp_R20_Small_13_2.n us', sp_R20_Small_13_2.s.h us')) sp_R20_Small_13_2.fin := by
  rw [← callF_eq, ← runF_eq]; kernel_rfl
theorem lo_R20_Small_13_2 {R : Type} : LoopTells Try.prog X2 M_R20_Small L_R20_Small 0 (L_R20_Small 13) (bodyOf Try.prog 13 2) (gL (R := R) sp_R20_Small_13_2 rd_R20_Small_13_2 br) :=
  loopTold (callK_ev (loopsOK_list rids noneIn) 40) (lsokIn (loopsOK_list rids noneIn) 13 0 2) (by kernel_rfl) sp_R20_Small_13_2 rd_R20_Small_13_2 rfl (by kernel_rfl) (by
    intro us v h; unfold rd_R20_Small_13_2 at h; split at h
    · rename_i v0 v1; exact rq_R20_Small_13_2 v0 v1
    · cases h)
noncomputable abbrev ll_R20_Small_13_2 {R : Type} : List (Nat × Nat × Nat × Smy R) := (13, 0, 2, gL sp_R20_Small_13_2 rd_R20_Small_13_2 br) :: []
theorem lk_R20_Small_13_2 {R : Type} : ∀ e ∈ ll_R20_Small_13_2 (R := R), LoopTells Try.prog X2 M_R20_Small L_R20_Small e.2.1 (L_R20_Small e.1) (bodyOf Try.prog e.1 e.2.2.1) e.2.2.2 := List.forall_mem_cons.2 ⟨lo_R20_Small_13_2, noneIn⟩
def S_R20_Small : FSp := ⟨[.one (.l 40)], [], [], [([.one (.b)], [])]⟩
noncomputable def m_R20_Small : List U → Rt
  | [.l v0] =>
    (let r0 : Rs := (lres rd_R20_Small_13_2 [U.l v0, U.i (0 : Int)])
    (.test (ok r0 0)
    (.stop 0 [.b (uB (out r0 0) 0)])
    (.test (ok r0 1)
    (.stop 0 [.b (decide (ln (uL (out r0 1) 0) ≤ (8 : Int)))])
    .fail)))
  | _ => .fail
set_option maxRecDepth 100000 in
theorem q_R20_Small (v0 : List (List PV)) : callK br Try.prog X2 M_R20_Small L_R20_Small (lsT ll_R20_Small_13_2) 60 13 (encs [.l v0] 0 S_R20_Small.ap) (encH [.l v0] (ws S_R20_Small.ap) S_R20_Small.ah) (fun y => fixR Try.prog S_R20_Small.plan S_R20_Small.ah.length y) =
    (m_R20_Small [.l v0]).go br (fun _ => none) S_R20_Small.fin := by
  rw [← callF_eq]; kernel_rfl
theorem e_R20_Small : EOK Try.prog 13 (gF S_R20_Small m_R20_Small) :=
  eokTold mixed named x2 (loopsOK_list rids lk_R20_Small_13_2) 60 S_R20_Small m_R20_Small (by
    intro us v h; unfold m_R20_Small at h; split at h
    · rename_i v0; exact q_R20_Small v0
    · cases h) false
noncomputable abbrev X3 : Ext := extT [(13, (gF S_R20_Small m_R20_Small))] X2
theorem x3 : XOK Try.prog X3 := xok1 x2 e_R20_Small

/-- levee/leveeref05.Small -/
def L_R05_Small : FuncId → Nat → Option (List Nat) := liveT [(50, 2, [0, 3]), (50, 1000002, [0]), (50, 2000002, [2])]
def M_R05_Small : FuncId → Bool := fun _ => false
noncomputable def rd_R05_Small_50_2 : List U → Rt
  | [.l v0, .i v1] =>
    (.test (decide (v1 < ln v0))
    (.test (inR v1 (ln v0))
    (let r0 : Rs := (Rt.res (m_R02_Short [U.l (cL (el v0 v1) 0)]))
    (.test (ok r0 0)
    (.test (!uB (out r0 0) 0)
    (.stop 0 [.b false])
    (.next [.l v0, .i (w64 (v1 + (1 : Int)))]))
    .fail))
    .fail)
    (.stop 1 [.l v0]))
  | _ => .fail
def sp_R05_Small_50_2 : LSp := ⟨20, ⟨[(0, .one (.l 83)), (3, .one (.i .i64))], []⟩, [(.ret, ⟨[(2, .one (.b))], []⟩), (.exit 0, ⟨[(0, .one (.l 83))], []⟩)]⟩
set_option maxRecDepth 100000 in
theorem rq_R05_Small_50_2 (v0 : List (List PV)) (v1 : Int) : runK br Try.prog (callK br Try.prog X3 M_R05_Small L_R05_Small (lsT []) 40) M_R05_Small (lsT [] 50 0) 40 0 (L_R05_Small 50) (bodyOf Try.prog 50 2) (sp_R05_Small_50_2.s.ts sp_R05_Small_50_2.n [.l v0, .i v1]) (sp_R05_Small_50_2.s.h [.l v0, .i v1]) (idc Try.prog 0 (L_R05_Small 50) 2) =
    (rd_R05_Small_50_2 [.l v0, .i v1]).go br (fun us' => some (.normal, sp_R05_Small_50_2.s.ts sp_R05_Small_50_2.n us', sp_R05_Small_50_2.s.h us')) sp_R05_Small_50_2.fin := by
  rw [← callF_eq, ← runF_eq]; kernel_rfl
theorem lo_R05_Small_50_2 {R : Type} : LoopTells Try.prog X3 M_R05_Small L_R05_Small 0 (L_R05_Small 50) (bodyOf Try.prog 50 2) (gL (R := R) sp_R05_Small_50_2 rd_R05_Small_50_2 br) :=
  loopTold (callK_ev (loopsOK_list rids noneIn) 40) (lsokIn (loopsOK_list rids noneIn) 50 0 2) (by kernel_rfl) sp_R05_Small_50_2 rd_R05_Small_50_2 rfl (by kernel_rfl) (by
    intro us v h; unfold rd_R05_Small_50_2 at h; split at h
    · rename_i v0 v1; exact rq_R05_Small_50_2 v0 v1
    · cases h)
noncomputable abbrev ll_R05_Small_50_2 {R : Type} : List (Nat × Nat × Nat × Smy R) := (50, 0, 2, gL sp_R05_Small_50_2 rd_R05_Small_50_2 br) :: []
theorem lk_R05_Small_50_2 {R : Type} : ∀ e ∈ ll_R05_Small_50_2 (R := R), LoopTells Try.prog X3 M_R05_Small L_R05_Small e.2.1 (L_R05_Small e.1) (bodyOf Try.prog e.1 e.2.2.1) e.2.2.2 := List.forall_mem_cons.2 ⟨lo_R05_Small_50_2, noneIn⟩
def S_R05_Small : FSp := ⟨[.one (.l 83)], [], [], [([.one (.b)], [])]⟩
noncomputable def m_R05_Small : List U → Rt
  | [.l v0] =>
    (let r0 : Rs := (lres rd_R05_Small_50_2 [U.l v0, U.i (0 : Int)])
    (.test (ok r0 0)
    (.stop 0 [.b (uB (out r0 0) 0)])
    (.test (ok r0 1)
    (.stop 0 [.b (decide (ln (uL (out r0 1) 0) ≤ (60 : Int)))])
    .fail)))
  | _ => .fail
set_option maxRecDepth 100000 in
theorem q_R05_Small (v0 : List (List PV)) : callK br Try.prog X3 M_R05_Small L_R05_Small (lsT ll_R05_Small_50_2) 60 50 (encs [.l v0] 0 S_R05_Small.ap) (encH [.l v0] (ws S_R05_Small.ap) S_R05_Small.ah) (fun y => fixR Try.prog S_R05_Small.plan S_R05_Small.ah.length y) =
    (m_R05_Small [.l v0]).go br (fun _ => none) S_R05_Small.fin := by
  rw [← callF_eq]; kernel_rfl
theorem e_R05_Small : EOK Try.prog 50 (gF S_R05_Small m_R05_Small) :=
  eokTold mixed named x3 (loopsOK_list rids lk_R05_Small_50_2) 60 S_R05_Small m_R05_Small (by
    intro us v h; unfold m_R05_Small at h; split at h
    · rename_i v0; exact q_R05_Small v0
    · cases h) false
noncomputable abbrev X4 : Ext := extT [(50, (gF S_R05_Small m_R05_Small))] X3
theorem x4 : XOK Try.prog X4 := xok1 x3 e_R05_Small

/-- levee/leveeref20.Few -/
def L_R20_Few : FuncId → Nat → Option (List Nat) := liveT [(14, 2, [1, 3]), (14, 1000002, [1]), (14, 2000002, [2]), (14, 7, [1, 4]), (14, 1000007, [1]), (14, 2000007, [2])]
def M_R20_Few : FuncId → Bool := fun _ => false
noncomputable def rd_R20_Few_14_2 : List U → Rt
  | [.i v0, .l v1, .l v2, .l v3] =>
    (.test (decide (v0 < ln v3))
    (.test (inR v0 (ln v3))
    (let r0 : Rs := (Rt.res (m_R05_Small [U.l (cL (el v3 v0) 1)]))
    (.test (ok r0 0)
    (.test (!uB (out r0 0) 0)
    (.stop 0 [.b false])
    (.next [.i (w64 (v0 + (1 : Int))), .l v1, .l v2, .l v3]))
    .fail))
    .fail)
    (.stop 1 [.l v1, .l v2, .l v3]))
  | _ => .fail
def sp_R20_Few_14_2 : LSp := ⟨51, ⟨[(1, .one (.ptr 0 0)), (3, .one (.i .i64))], [.box 29 [.one (.l 43), .one (.l 47), .one (.l 55)]]⟩, [(.ret, ⟨[(2, .one (.b))], []⟩), (.exit 0, ⟨[(1, .one (.ptr 0 0))], [.box 29 [.one (.l 43), .one (.l 47), .one (.l 55)]]⟩)]⟩
set_option maxRecDepth 100000 in
theorem rq_R20_Few_14_2 (v0 : Int) (v1 : List (List PV)) (v2 : List (List PV)) (v3 : List (List PV)) : runK br Try.prog (callK br Try.prog X4 M_R20_Few L_R20_Few (lsT []) 40) M_R20_Few (lsT [] 14 0) 40 0 (L_R20_Few 14) (bodyOf Try.prog 14 2) (sp_R20_Few_14_2.s.ts sp_R20_Few_14_2.n [.i v0, .l v1, .l v2, .l v3]) (sp_R20_Few_14_2.s.h [.i v0, .l v1, .l v2, .l v3]) (idc Try.prog 0 (L_R20_Few 14) 2) =
    (rd_R20_Few_14_2 [.i v0, .l v1, .l v2, .l v3]).go br (fun us' => some (.normal, sp_R20_Few_14_2.s.ts sp_R20_Few_14_2.n us', sp_R20_Few_14_2.s.h us')) sp_R20_Few_14_2.fin := by
  rw [← callF_eq, ← runF_eq]; kernel_rfl
theorem lo_R20_Few_14_2 {R : Type} : LoopTells Try.prog X4 M_R20_Few L_R20_Few 0 (L_R20_Few 14) (bodyOf Try.prog 14 2) (gL (R := R) sp_R20_Few_14_2 rd_R20_Few_14_2 br) :=
  loopTold (callK_ev (loopsOK_list rids noneIn) 40) (lsokIn (loopsOK_list rids noneIn) 14 0 2) (by kernel_rfl) sp_R20_Few_14_2 rd_R20_Few_14_2 rfl (by kernel_rfl) (by
    intro us v h; unfold rd_R20_Few_14_2 at h; split at h
    · rename_i v0 v1 v2 v3; exact rq_R20_Few_14_2 v0 v1 v2 v3
    · cases h)
noncomputable abbrev ll_R20_Few_14_2 {R : Type} : List (Nat × Nat × Nat × Smy R) := (14, 0, 2, gL sp_R20_Few_14_2 rd_R20_Few_14_2 br) :: []
theorem lk_R20_Few_14_2 {R : Type} : ∀ e ∈ ll_R20_Few_14_2 (R := R), LoopTells Try.prog X4 M_R20_Few L_R20_Few e.2.1 (L_R20_Few e.1) (bodyOf Try.prog e.1 e.2.2.1) e.2.2.2 := List.forall_mem_cons.2 ⟨lo_R20_Few_14_2, noneIn⟩
noncomputable def rd_R20_Few_14_7 : List U → Rt
  | [.i v0, .l v1, .l v2, .l v3] =>
    (.test (decide (v0 < ln v2))
    (.test (inR v0 (ln v2))
    (.test (decide (ln (cL (el v2 v0) 7) > (60 : Int)))
    (.stop 0 [.b false])
    (.next [.i (w64 (v0 + (1 : Int))), .l v1, .l v2, .l v3]))
    .fail)
    (.stop 1 [.l v1, .l v2, .l v3]))
  | _ => .fail
def sp_R20_Few_14_7 : LSp := ⟨51, ⟨[(1, .one (.ptr 0 0)), (4, .one (.i .i64))], [.box 29 [.one (.l 43), .one (.l 47), .one (.l 55)]]⟩, [(.ret, ⟨[(2, .one (.b))], []⟩), (.exit 2, ⟨[(1, .one (.ptr 0 0))], [.box 29 [.one (.l 43), .one (.l 47), .one (.l 55)]]⟩)]⟩
set_option maxRecDepth 100000 in
theorem rq_R20_Few_14_7 (v0 : Int) (v1 : List (List PV)) (v2 : List (List PV)) (v3 : List (List PV)) : runK br Try.prog (callK br Try.prog X4 M_R20_Few L_R20_Few (lsT ll_R20_Few_14_2) 40) M_R20_Few (lsT ll_R20_Few_14_2 14 0) 40 0 (L_R20_Few 14) (bodyOf Try.prog 14 7) (sp_R20_Few_14_7.s.ts sp_R20_Few_14_7.n [.i v0, .l v1, .l v2, .l v3]) (sp_R20_Few_14_7.s.h [.i v0, .l v1, .l v2, .l v3]) (idc Try.prog 0 (L_R20_Few 14) 7) =
    (rd_R20_Few_14_7 [.i v0, .l v1, .l v2, .l v3]).go br (fun us' => some (.normal, sp_R20_Few_14_7.s.ts sp_R20_Few_14_7.n us', sp_R20_Few_14_7.s.h us')) sp_R20_Few_14_7.fin := by
  rw [← callF_eq, ← runF_eq]; kernel_rfl
theorem lo_R20_Few_14_7 {R : Type} : LoopTells Try.prog X4 M_R20_Few L_R20_Few 0 (L_R20_Few 14) (bodyOf Try.prog 14 7) (gL (R := R) sp_R20_Few_14_7 rd_R20_Few_14_7 br) :=
  loopTold (callK_ev (loopsOK_list rids lk_R20_Few_14_2) 40) (lsokIn (loopsOK_list rids lk_R20_Few_14_2) 14 0 7) (by kernel_rfl) sp_R20_Few_14_7 rd_R20_Few_14_7 rfl (by kernel_rfl) (by
    intro us v h; unfold rd_R20_Few_14_7 at h; split at h
    · rename_i v0 v1 v2 v3; exact rq_R20_Few_14_7 v0 v1 v2 v3
    · cases h)
noncomputable abbrev ll_R20_Few_14_7 {R : Type} : List (Nat × Nat × Nat × Smy R) := (14, 0, 7, gL sp_R20_Few_14_7 rd_R20_Few_14_7 br) :: ll_R20_Few_14_2
theorem lk_R20_Few_14_7 {R : Type} : ∀ e ∈ ll_R20_Few_14_7 (R := R), LoopTells Try.prog X4 M_R20_Few L_R20_Few e.2.1 (L_R20_Few e.1) (bodyOf Try.prog e.1 e.2.2.1) e.2.2.2 := List.forall_mem_cons.2 ⟨lo_R20_Few_14_7, lk_R20_Few_14_2⟩
def S_R20_Few : FSp := ⟨[.agg [.l 43, .l 47, .l 55]], [], [], [([.one (.b)], [])]⟩
noncomputable def m_R20_Few : List U → Rt
  | [.l v0, .l v1, .l v2] =>
    (let r0 : Rs := (lres rd_R20_Few_14_2 [U.i (0 : Int), U.l v0, U.l v1, U.l v2])
    (.test (ok r0 0)
    (.stop 0 [.b (uB (out r0 0) 0)])
    (.test (ok r0 1)
    (let r1 : Rs := (lres rd_R20_Few_14_7 [U.i (0 : Int), U.l (uL (out r0 1) 0), U.l (uL (out r0 1) 1), U.l (uL (out r0 1) 2)])
    (.test (ok r1 0)
    (.stop 0 [.b (uB (out r1 0) 0)])
    (.test (ok r1 1)
    (.test (decide (ln (uL (out r1 1) 0) ≤ (60 : Int)))
    (.test (decide (ln (uL (out r1 1) 1) ≤ (60 : Int)))
    (.stop 0 [.b (decide (ln (uL (out r1 1) 2) ≤ (60 : Int)))])
    (.stop 0 [.b false]))
    (.stop 0 [.b false]))
    .fail)))
    .fail)))
  | _ => .fail
set_option maxRecDepth 100000 in
theorem q_R20_Few (v0 : List (List PV)) (v1 : List (List PV)) (v2 : List (List PV)) : callK br Try.prog X4 M_R20_Few L_R20_Few (lsT ll_R20_Few_14_7) 60 14 (encs [.l v0, .l v1, .l v2] 0 S_R20_Few.ap) (encH [.l v0, .l v1, .l v2] (ws S_R20_Few.ap) S_R20_Few.ah) (fun y => fixR Try.prog S_R20_Few.plan S_R20_Few.ah.length y) =
    (m_R20_Few [.l v0, .l v1, .l v2]).go br (fun _ => none) S_R20_Few.fin := by
  rw [← callF_eq]; kernel_rfl
theorem e_R20_Few : EOK Try.prog 14 (gF S_R20_Few m_R20_Few) :=
  eokTold mixed named x4 (loopsOK_list rids lk_R20_Few_14_7) 60 S_R20_Few m_R20_Few (by
    intro us v h; unfold m_R20_Few at h; split at h
    · rename_i v0 v1 v2; exact q_R20_Few v0 v1 v2
    · cases h) false
noncomputable abbrev X5 : Ext := extT [(14, (gF S_R20_Few m_R20_Few))] X4
theorem x5 : XOK Try.prog X5 := xok1 x4 e_R20_Few

/-- levee/leveeref10.Low -/
def L_R10_Low : FuncId → Nat → Option (List Nat) := liveT [(51, 2, [0, 3]), (51, 1000002, [0]), (51, 2000002, [2])]
def M_R10_Low : FuncId → Bool := fun _ => false
noncomputable def rd_R10_Low_51_2 : List U → Rt
  | [.l v0, .i v1] =>
    (.test (decide (v1 < ln v0))
    (.test (inR v1 (ln v0))
    (.test (decide (cI (el v0 v1) 1 > (1000 : Int)))
    (.stop 0 [.b false])
    (.test (inR v1 (ln v0))
    (.test (decide (cI (el v0 v1) 1 < (-1000 : Int)))
    (.stop 0 [.b false])
    (.next [.l v0, .i (w64 (v1 + (1 : Int)))]))
    .fail))
    .fail)
    (.stop 1 [.l v0]))
  | _ => .fail
def sp_R10_Low_51_2 : LSp := ⟨26, ⟨[(0, .one (.l 83)), (3, .one (.i .i64))], []⟩, [(.ret, ⟨[(2, .one (.b))], []⟩), (.exit 0, ⟨[(0, .one (.l 83))], []⟩)]⟩
set_option maxRecDepth 100000 in
theorem rq_R10_Low_51_2 (v0 : List (List PV)) (v1 : Int) : runK br Try.prog (callK br Try.prog X5 M_R10_Low L_R10_Low (lsT []) 40) M_R10_Low (lsT [] 51 0) 40 0 (L_R10_Low 51) (bodyOf Try.prog 51 2) (sp_R10_Low_51_2.s.ts sp_R10_Low_51_2.n [.l v0, .i v1]) (sp_R10_Low_51_2.s.h [.l v0, .i v1]) (idc Try.prog 0 (L_R10_Low 51) 2) =
    (rd_R10_Low_51_2 [.l v0, .i v1]).go br (fun us' => some (.normal, sp_R10_Low_51_2.s.ts sp_R10_Low_51_2.n us', sp_R10_Low_51_2.s.h us')) sp_R10_Low_51_2.fin := by
  rw [← callF_eq, ← runF_eq]; kernel_rfl
theorem lo_R10_Low_51_2 {R : Type} : LoopTells Try.prog X5 M_R10_Low L_R10_Low 0 (L_R10_Low 51) (bodyOf Try.prog 51 2) (gL (R := R) sp_R10_Low_51_2 rd_R10_Low_51_2 br) :=
  loopTold (callK_ev (loopsOK_list rids noneIn) 40) (lsokIn (loopsOK_list rids noneIn) 51 0 2) (by kernel_rfl) sp_R10_Low_51_2 rd_R10_Low_51_2 rfl (by kernel_rfl) (by
    intro us v h; unfold rd_R10_Low_51_2 at h; split at h
    · rename_i v0 v1; exact rq_R10_Low_51_2 v0 v1
    · cases h)
noncomputable abbrev ll_R10_Low_51_2 {R : Type} : List (Nat × Nat × Nat × Smy R) := (51, 0, 2, gL sp_R10_Low_51_2 rd_R10_Low_51_2 br) :: []
theorem lk_R10_Low_51_2 {R : Type} : ∀ e ∈ ll_R10_Low_51_2 (R := R), LoopTells Try.prog X5 M_R10_Low L_R10_Low e.2.1 (L_R10_Low e.1) (bodyOf Try.prog e.1 e.2.2.1) e.2.2.2 := List.forall_mem_cons.2 ⟨lo_R10_Low_51_2, noneIn⟩
def S_R10_Low : FSp := ⟨[.one (.l 83)], [], [], [([.one (.b)], [])]⟩
noncomputable def m_R10_Low : List U → Rt
  | [.l v0] =>
    (let r0 : Rs := (lres rd_R10_Low_51_2 [U.l v0, U.i (0 : Int)])
    (.test (ok r0 0)
    (.stop 0 [.b (uB (out r0 0) 0)])
    (.test (ok r0 1)
    (let r1 : Rs := (Rt.res (m_R05_Small [U.l (uL (out r0 1) 0)]))
    (.test (ok r1 0)
    (.stop 0 [.b (uB (out r1 0) 0)])
    .fail))
    .fail)))
  | _ => .fail
set_option maxRecDepth 100000 in
theorem q_R10_Low (v0 : List (List PV)) : callK br Try.prog X5 M_R10_Low L_R10_Low (lsT ll_R10_Low_51_2) 60 51 (encs [.l v0] 0 S_R10_Low.ap) (encH [.l v0] (ws S_R10_Low.ap) S_R10_Low.ah) (fun y => fixR Try.prog S_R10_Low.plan S_R10_Low.ah.length y) =
    (m_R10_Low [.l v0]).go br (fun _ => none) S_R10_Low.fin := by
  rw [← callF_eq]; kernel_rfl
theorem e_R10_Low : EOK Try.prog 51 (gF S_R10_Low m_R10_Low) :=
  eokTold mixed named x5 (loopsOK_list rids lk_R10_Low_51_2) 60 S_R10_Low m_R10_Low (by
    intro us v h; unfold m_R10_Low at h; split at h
    · rename_i v0; exact q_R10_Low v0
    · cases h) false
noncomputable abbrev X6 : Ext := extT [(51, (gF S_R10_Low m_R10_Low))] X5
theorem x6 : XOK Try.prog X6 := xok1 x5 e_R10_Low

/-- levee/leveeref12.Small -/
def L_R12_Small : FuncId → Nat → Option (List Nat) := liveT [(15, 2, [0, 3]), (15, 1000002, [0]), (15, 2000002, [2])]
def M_R12_Small : FuncId → Bool := fun _ => false
noncomputable def rd_R12_Small_15_2 : List U → Rt
  | [.l v0, .i v1] =>
    (.test (decide (v1 < ln v0))
    (.test (inR v1 (ln v0))
    (.test (decide (ln (cL (el v0 v1) 1) > (12 : Int)))
    (.stop 0 [.b false])
    (.test (inR v1 (ln v0))
    (let r0 : Rs := (Rt.res (m_R10_Low [U.l (cL (el v0 v1) 1)]))
    (.test (ok r0 0)
    (.test (!uB (out r0 0) 0)
    (.stop 0 [.b false])
    (.next [.l v0, .i (w64 (v1 + (1 : Int)))]))
    .fail))
    .fail))
    .fail)
    (.stop 1 [.l v0]))
  | _ => .fail
def sp_R12_Small_15_2 : LSp := ⟨29, ⟨[(0, .one (.l 90)), (3, .one (.i .i64))], []⟩, [(.ret, ⟨[(2, .one (.b))], []⟩), (.exit 0, ⟨[(0, .one (.l 90))], []⟩)]⟩
set_option maxRecDepth 100000 in
theorem rq_R12_Small_15_2 (v0 : List (List PV)) (v1 : Int) : runK br Try.prog (callK br Try.prog X6 M_R12_Small L_R12_Small (lsT []) 40) M_R12_Small (lsT [] 15 0) 40 0 (L_R12_Small 15) (bodyOf Try.prog 15 2) (sp_R12_Small_15_2.s.ts sp_R12_Small_15_2.n [.l v0, .i v1]) (sp_R12_Small_15_2.s.h [.l v0, .i v1]) (idc Try.prog 0 (L_R12_Small 15) 2) =
    (rd_R12_Small_15_2 [.l v0, .i v1]).go br (fun us' => some (.normal, sp_R12_Small_15_2.s.ts sp_R12_Small_15_2.n us', sp_R12_Small_15_2.s.h us')) sp_R12_Small_15_2.fin := by
  rw [← callF_eq, ← runF_eq]; kernel_rfl
theorem lo_R12_Small_15_2 {R : Type} : LoopTells Try.prog X6 M_R12_Small L_R12_Small 0 (L_R12_Small 15) (bodyOf Try.prog 15 2) (gL (R := R) sp_R12_Small_15_2 rd_R12_Small_15_2 br) :=
  loopTold (callK_ev (loopsOK_list rids noneIn) 40) (lsokIn (loopsOK_list rids noneIn) 15 0 2) (by kernel_rfl) sp_R12_Small_15_2 rd_R12_Small_15_2 rfl (by kernel_rfl) (by
    intro us v h; unfold rd_R12_Small_15_2 at h; split at h
    · rename_i v0 v1; exact rq_R12_Small_15_2 v0 v1
    · cases h)
noncomputable abbrev ll_R12_Small_15_2 {R : Type} : List (Nat × Nat × Nat × Smy R) := (15, 0, 2, gL sp_R12_Small_15_2 rd_R12_Small_15_2 br) :: []
theorem lk_R12_Small_15_2 {R : Type} : ∀ e ∈ ll_R12_Small_15_2 (R := R), LoopTells Try.prog X6 M_R12_Small L_R12_Small e.2.1 (L_R12_Small e.1) (bodyOf Try.prog e.1 e.2.2.1) e.2.2.2 := List.forall_mem_cons.2 ⟨lo_R12_Small_15_2, noneIn⟩
def S_R12_Small : FSp := ⟨[.one (.l 90)], [], [], [([.one (.b)], [])]⟩
noncomputable def m_R12_Small : List U → Rt
  | [.l v0] =>
    (let r0 : Rs := (lres rd_R12_Small_15_2 [U.l v0, U.i (0 : Int)])
    (.test (ok r0 0)
    (.stop 0 [.b (uB (out r0 0) 0)])
    (.test (ok r0 1)
    (.stop 0 [.b (decide (ln (uL (out r0 1) 0) ≤ (6 : Int)))])
    .fail)))
  | _ => .fail
set_option maxRecDepth 100000 in
theorem q_R12_Small (v0 : List (List PV)) : callK br Try.prog X6 M_R12_Small L_R12_Small (lsT ll_R12_Small_15_2) 60 15 (encs [.l v0] 0 S_R12_Small.ap) (encH [.l v0] (ws S_R12_Small.ap) S_R12_Small.ah) (fun y => fixR Try.prog S_R12_Small.plan S_R12_Small.ah.length y) =
    (m_R12_Small [.l v0]).go br (fun _ => none) S_R12_Small.fin := by
  rw [← callF_eq]; kernel_rfl
theorem e_R12_Small : EOK Try.prog 15 (gF S_R12_Small m_R12_Small) :=
  eokTold mixed named x6 (loopsOK_list rids lk_R12_Small_15_2) 60 S_R12_Small m_R12_Small (by
    intro us v h; unfold m_R12_Small at h; split at h
    · rename_i v0; exact q_R12_Small v0
    · cases h) false
noncomputable abbrev X7 : Ext := extT [(15, (gF S_R12_Small m_R12_Small))] X6
theorem x7 : XOK Try.prog X7 := xok1 x6 e_R12_Small

/-- levee/leveeref01.Int -/
def L_R01_Int : FuncId → Nat → Option (List Nat) := liveT []
def M_R01_Int : FuncId → Bool := fun _ => false
def S_R01_Int : FSp := ⟨[.one (.i .i64)], [], [], [([.agg [.i .i64, .i .i64, .s]], [])]⟩
noncomputable def m_R01_Int : List U → Rt
  | [.i v0] =>
    (.stop 0 [.i ((2 : Int)), .i v0, .s ({ data := #[] })])
  | _ => .fail
set_option maxRecDepth 100000 in
theorem q_R01_Int (v0 : Int) : callK br Try.prog X7 M_R01_Int L_R01_Int (lsT []) 60 49 (encs [.i v0] 0 S_R01_Int.ap) (encH [.i v0] (ws S_R01_Int.ap) S_R01_Int.ah) (fun y => fixR Try.prog S_R01_Int.plan S_R01_Int.ah.length y) =
    (m_R01_Int [.i v0]).go br (fun _ => none) S_R01_Int.fin := by
  rw [← callF_eq]; kernel_rfl
theorem e_R01_Int : EOK Try.prog 49 (gI S_R01_Int m_R01_Int) :=
  eokTold mixed named x7 (loopsOK_list rids noneIn) 60 S_R01_Int m_R01_Int (by
    intro us v h; unfold m_R01_Int at h; split at h
    · rename_i v0; exact q_R01_Int v0
    · cases h) true
noncomputable abbrev X8 : Ext := extT [(49, (gI S_R01_Int m_R01_Int))] X7
theorem x8 : XOK Try.prog X8 := xok1 x7 e_R01_Int

/-- levee/leveelaw20.one -/
def L_L20_one : FuncId → Nat → Option (List Nat) := liveT []
def M_L20_one : FuncId → Bool := fun _ => false
def S_L20_one : FSp := ⟨[.one (.i .i64)], [], [], [([.one (.all 0)], [.arr 40 true])]⟩
noncomputable def m_L20_one : List U → Rt
  | [.i v0] =>
    (.stop 0 [.l ([[pS { data := #[(116 : UInt8)] }, PV.lst 59 [[PV.lst 24 [[pI (2 : Int), pI (3 : Int), pS { data := #[] }]], pI v0]]]])])
  | _ => .fail
set_option maxRecDepth 100000 in
theorem q_L20_one (v0 : Int) : callK br Try.prog X8 M_L20_one L_L20_one (lsT []) 60 52 (encs [.i v0] 0 S_L20_one.ap) (encH [.i v0] (ws S_L20_one.ap) S_L20_one.ah) (fun y => fixR Try.prog S_L20_one.plan S_L20_one.ah.length y) =
    (m_L20_one [.i v0]).go br (fun _ => none) S_L20_one.fin := by
  rw [← callF_eq]; kernel_rfl
theorem e_L20_one : EOK Try.prog 52 (gI S_L20_one m_L20_one) :=
  eokTold mixed named x8 (loopsOK_list rids noneIn) 60 S_L20_one m_L20_one (by
    intro us v h; unfold m_L20_one at h; split at h
    · rename_i v0; exact q_L20_one v0
    · cases h) true
noncomputable abbrev X9 : Ext := extT [(52, (gI S_L20_one m_L20_one))] X8
theorem x9 : XOK Try.prog X9 := xok1 x8 e_L20_one

/-- levee/reads.Look -/
def L_reads_Look : FuncId → Nat → Option (List Nat) := liveT [(75, 2, [0, 1, 7, 8]), (75, 1000002, []), (75, 2000002, [4])]
def M_reads_Look : FuncId → Bool := fun _ => false
noncomputable def rd_reads_Look_75_2 : List U → Rt
  | [.l v0, .i v1, .i v2, .s v3] =>
    (.test (decide (v2 < v1))
    (.test (inR v2 (ln v0))
    (.test (ByteArray.toList (cS (el v0 v2) 0) == ByteArray.toList v3)
    (.stop 0 [.i v2, .s v3])
    (.next [.l v0, .i v1, .i (w64 (v2 + (1 : Int))), .s v3]))
    .fail)
    (.stop 1 [.s v3]))
  | _ => .fail
def sp_reads_Look_75_2 : LSp := ⟨19, ⟨[(0, .one (.l 40)), (1, .fn 76 [.ptr 0 0]), (7, .one (.i .i64)), (8, .one (.i .i64))], [.box 9 [.one (.s)]]⟩, [(.ret, ⟨[(4, .one (.i .i64))], [.box 9 [.one (.s)]]⟩), (.exit 0, ⟨[], [.box 9 [.one (.s)]]⟩)]⟩
set_option maxRecDepth 100000 in
theorem rq_reads_Look_75_2 (v0 : List (List PV)) (v1 : Int) (v2 : Int) (v3 : ByteArray) : runK br Try.prog (callK br Try.prog X9 M_reads_Look L_reads_Look (lsT []) 40) M_reads_Look (lsT [] 75 1) 40 1 (L_reads_Look 75) (bodyOf Try.prog 75 2) (sp_reads_Look_75_2.s.ts sp_reads_Look_75_2.n [.l v0, .i v1, .i v2, .s v3]) (sp_reads_Look_75_2.s.h [.l v0, .i v1, .i v2, .s v3]) (idc Try.prog 1 (L_reads_Look 75) 2) =
    (rd_reads_Look_75_2 [.l v0, .i v1, .i v2, .s v3]).go br (fun us' => some (.normal, sp_reads_Look_75_2.s.ts sp_reads_Look_75_2.n us', sp_reads_Look_75_2.s.h us')) sp_reads_Look_75_2.fin := by
  rw [← callF_eq, ← runF_eq]; kernel_rfl
theorem lo_reads_Look_75_2 {R : Type} : LoopTells Try.prog X9 M_reads_Look L_reads_Look 1 (L_reads_Look 75) (bodyOf Try.prog 75 2) (gL (R := R) sp_reads_Look_75_2 rd_reads_Look_75_2 br) :=
  loopTold (callK_ev (loopsOK_list rids noneIn) 40) (lsokIn (loopsOK_list rids noneIn) 75 1 2) (by kernel_rfl) sp_reads_Look_75_2 rd_reads_Look_75_2 rfl (by kernel_rfl) (by
    intro us v h; unfold rd_reads_Look_75_2 at h; split at h
    · rename_i v0 v1 v2 v3; exact rq_reads_Look_75_2 v0 v1 v2 v3
    · cases h)
noncomputable abbrev ll_reads_Look_75_2 {R : Type} : List (Nat × Nat × Nat × Smy R) := (75, 1, 2, gL sp_reads_Look_75_2 rd_reads_Look_75_2 br) :: []
theorem lk_reads_Look_75_2 {R : Type} : ∀ e ∈ ll_reads_Look_75_2 (R := R), LoopTells Try.prog X9 M_reads_Look L_reads_Look e.2.1 (L_reads_Look e.1) (bodyOf Try.prog e.1 e.2.2.1) e.2.2.2 := List.forall_mem_cons.2 ⟨lo_reads_Look_75_2, noneIn⟩
def S_reads_Look : FSp := ⟨[.one (.l 40), .one (.s)], [], [2000120000000], [([.agg [.s, .l 59]], [])]⟩
noncomputable def m_reads_Look : List U → Rt
  | [.l v0, .s v1] =>
    (let r0 : Rs := (lres rd_reads_Look_75_2 [U.l v0, U.i (ln v0), U.i (0 : Int), U.s v1])
    (.test (ok r0 0)
    (.test (decide (uI (out r0 0) 0 < (0 : Int)))
    (.stop 0 [.s ({ data := #[] }), .l []])
    (.test (inR (uI (out r0 0) 0) (ln v0))
    (.stop 0 [.s (cS (el v0 (uI (out r0 0) 0)) 0), .l (cL (el v0 (uI (out r0 0) 0)) 1)])
    .fail))
    (.test (ok r0 1)
    (.stop 0 [.s ({ data := #[] }), .l []])
    .fail)))
  | _ => .fail
set_option maxRecDepth 100000 in
theorem q_reads_Look (v0 : List (List PV)) (v1 : ByteArray) : callK br Try.prog X9 M_reads_Look L_reads_Look (lsT ll_reads_Look_75_2) 60 53 (encs [.l v0, .s v1] 0 S_reads_Look.ap) (encH [.l v0, .s v1] (ws S_reads_Look.ap) S_reads_Look.ah) (fun y => fixR Try.prog S_reads_Look.plan S_reads_Look.ah.length y) =
    (m_reads_Look [.l v0, .s v1]).go br (fun _ => none) S_reads_Look.fin := by
  rw [← callF_eq]; kernel_rfl
theorem e_reads_Look : EOK Try.prog 53 (gF S_reads_Look m_reads_Look) :=
  eokTold mixed named x9 (loopsOK_list rids lk_reads_Look_75_2) 60 S_reads_Look m_reads_Look (by
    intro us v h; unfold m_reads_Look at h; split at h
    · rename_i v0 v1; exact q_reads_Look v0 v1
    · cases h) false
noncomputable abbrev X10 : Ext := extT [(53, (gF S_reads_Look m_reads_Look))] X9
theorem x10 : XOK Try.prog X10 := xok1 x9 e_reads_Look

/-- levee/value.May -/
def L_value_May : FuncId → Nat → Option (List Nat) := liveT []
def M_value_May : FuncId → Bool := fun _ => false
def S_value_May : FSp := ⟨[.agg [.i .i64, .i .i64, .s]], [], [], [([.one (.b)], [])]⟩
noncomputable def m_value_May : List U → Rt
  | [.i v0, .i v1, .s v2] =>
    (.test (v0 == (0 : Int))
    (.stop 0 [.b (v0 == (0 : Int) && (v1 == (0 : Int) && (ByteArray.toList v2 == [] && true)))])
    (.test (v0 == (1 : Int))
    (.test (v1 == (0 : Int))
    (.stop 0 [.b (ByteArray.toList v2 == [])])
    (.test (v1 == (1 : Int))
    (.stop 0 [.b (ByteArray.toList v2 == [])])
    (.stop 0 [.b false])))
    (.test (v0 == (2 : Int))
    (.stop 0 [.b (ByteArray.toList v2 == [])])
    (.test (v0 == (3 : Int))
    (.test (v1 == (0 : Int))
    (.stop 0 [.b (decide ((↑(ByteArray.size v2) : Int) ≤ (1000 : Int)))])
    (.stop 0 [.b false]))
    (.stop 0 [.b false])))))
  | _ => .fail
set_option maxRecDepth 100000 in
theorem q_value_May (v0 : Int) (v1 : Int) (v2 : ByteArray) : callK br Try.prog X10 M_value_May L_value_May (lsT []) 60 111 (encs [.i v0, .i v1, .s v2] 0 S_value_May.ap) (encH [.i v0, .i v1, .s v2] (ws S_value_May.ap) S_value_May.ah) (fun y => fixR Try.prog S_value_May.plan S_value_May.ah.length y) =
    (m_value_May [.i v0, .i v1, .s v2]).go br (fun _ => none) S_value_May.fin := by
  rw [← callF_eq]; kernel_rfl
theorem e_value_May : EOK Try.prog 111 (gF S_value_May m_value_May) :=
  eokTold mixed named x10 (loopsOK_list rids noneIn) 60 S_value_May m_value_May (by
    intro us v h; unfold m_value_May at h; split at h
    · rename_i v0 v1 v2; exact q_value_May v0 v1 v2
    · cases h) false
noncomputable abbrev X11 : Ext := extT [(111, (gF S_value_May m_value_May))] X10
theorem x11 : XOK Try.prog X11 := xok1 x10 e_value_May

/-- levee/row.May -/
def L_row_May : FuncId → Nat → Option (List Nat) := liveT [(119, 2, [0, 1, 7, 8]), (119, 1000002, []), (119, 2000002, [4])]
def M_row_May : FuncId → Bool := fun _ => false
noncomputable def rd_row_May_119_2 : List U → Rt
  | [.l v0, .i v1, .i v2] =>
    (.test (decide (v2 < v1))
    (.test (inR v2 (ln v0))
    (let r0 : Rs := (Rt.res (m_value_May [U.i (cI (el v0 v2) 0), U.i (cI (el v0 v2) 1), U.s (cS (el v0 v2) 2)]))
    (.test (ok r0 0)
    (.test (!uB (out r0 0) 0)
    (.stop 0 [.i v2])
    (.next [.l v0, .i v1, .i (w64 (v2 + (1 : Int)))]))
    .fail))
    .fail)
    (.stop 1 []))
  | _ => .fail
def sp_row_May_119_2 : LSp := ⟨19, ⟨[(0, .one (.l 24)), (1, .fn 110 []), (7, .one (.i .i64)), (8, .one (.i .i64))], []⟩, [(.ret, ⟨[(4, .one (.i .i64))], []⟩), (.exit 0, ⟨[], []⟩)]⟩
set_option maxRecDepth 100000 in
theorem rq_row_May_119_2 (v0 : List (List PV)) (v1 : Int) (v2 : Int) : runK br Try.prog (callK br Try.prog X11 M_row_May L_row_May (lsT []) 40) M_row_May (lsT [] 119 0) 40 0 (L_row_May 119) (bodyOf Try.prog 119 2) (sp_row_May_119_2.s.ts sp_row_May_119_2.n [.l v0, .i v1, .i v2]) (sp_row_May_119_2.s.h [.l v0, .i v1, .i v2]) (idc Try.prog 0 (L_row_May 119) 2) =
    (rd_row_May_119_2 [.l v0, .i v1, .i v2]).go br (fun us' => some (.normal, sp_row_May_119_2.s.ts sp_row_May_119_2.n us', sp_row_May_119_2.s.h us')) sp_row_May_119_2.fin := by
  rw [← callF_eq, ← runF_eq]; kernel_rfl
theorem lo_row_May_119_2 {R : Type} : LoopTells Try.prog X11 M_row_May L_row_May 0 (L_row_May 119) (bodyOf Try.prog 119 2) (gL (R := R) sp_row_May_119_2 rd_row_May_119_2 br) :=
  loopTold (callK_ev (loopsOK_list rids noneIn) 40) (lsokIn (loopsOK_list rids noneIn) 119 0 2) (by kernel_rfl) sp_row_May_119_2 rd_row_May_119_2 rfl (by kernel_rfl) (by
    intro us v h; unfold rd_row_May_119_2 at h; split at h
    · rename_i v0 v1 v2; exact rq_row_May_119_2 v0 v1 v2
    · cases h)
noncomputable abbrev ll_row_May_119_2 {R : Type} : List (Nat × Nat × Nat × Smy R) := (119, 0, 2, gL sp_row_May_119_2 rd_row_May_119_2 br) :: []
theorem lk_row_May_119_2 {R : Type} : ∀ e ∈ ll_row_May_119_2 (R := R), LoopTells Try.prog X11 M_row_May L_row_May e.2.1 (L_row_May e.1) (bodyOf Try.prog e.1 e.2.2.1) e.2.2.2 := List.forall_mem_cons.2 ⟨lo_row_May_119_2, noneIn⟩
def S_row_May : FSp := ⟨[.one (.l 24)], [], [], [([.one (.b)], [])]⟩
noncomputable def m_row_May : List U → Rt
  | [.l v0] =>
    (.test (decide (ln v0 ≤ (40 : Int)))
    (let r0 : Rs := (lres rd_row_May_119_2 [U.l v0, U.i (ln v0), U.i (0 : Int)])
    (.test (ok r0 0)
    (.stop 0 [.b (!decide (uI (out r0 0) 0 ≥ (0 : Int)))])
    (.test (ok r0 1)
    (.stop 0 [.b true])
    .fail)))
    (.stop 0 [.b false]))
  | _ => .fail
set_option maxRecDepth 100000 in
theorem q_row_May (v0 : List (List PV)) : callK br Try.prog X11 M_row_May L_row_May (lsT ll_row_May_119_2) 60 94 (encs [.l v0] 0 S_row_May.ap) (encH [.l v0] (ws S_row_May.ap) S_row_May.ah) (fun y => fixR Try.prog S_row_May.plan S_row_May.ah.length y) =
    (m_row_May [.l v0]).go br (fun _ => none) S_row_May.fin := by
  rw [← callF_eq]; kernel_rfl
theorem e_row_May : EOK Try.prog 94 (gF S_row_May m_row_May) :=
  eokTold mixed named x11 (loopsOK_list rids lk_row_May_119_2) 60 S_row_May m_row_May (by
    intro us v h; unfold m_row_May at h; split at h
    · rename_i v0; exact q_row_May v0
    · cases h) false
noncomputable abbrev X12 : Ext := extT [(94, (gF S_row_May m_row_May))] X11
theorem x12 : XOK Try.prog X12 := xok1 x11 e_row_May

/-- levee/rel.right -/
def L_rel_right : FuncId → Nat → Option (List Nat) := liveT []
def M_rel_right : FuncId → Bool := fun _ => false
def S_rel_right : FSp := ⟨[.agg [.l 24, .i .i64]], [], [], [([.one (.b)], [])]⟩
noncomputable def m_rel_right : List U → Rt
  | [.l v0, .i v1] =>
    (let r0 : Rs := (Rt.res (m_row_May [U.l v0]))
    (.test (ok r0 0)
    (.test (uB (out r0 0) 0)
    (.test (decide (ln v0 > (0 : Int)))
    (.test (inR (0 : Int) (ln v0))
    (.test (cI (List.getD v0 0 []) 0 != (0 : Int))
    (.stop 0 [.b (decide (v1 ≥ (0 : Int)))])
    (.stop 0 [.b false]))
    .fail)
    (.stop 0 [.b false]))
    (.stop 0 [.b false]))
    .fail))
  | _ => .fail
set_option maxRecDepth 100000 in
theorem q_rel_right (v0 : List (List PV)) (v1 : Int) : callK br Try.prog X12 M_rel_right L_rel_right (lsT []) 60 70 (encs [.l v0, .i v1] 0 S_rel_right.ap) (encH [.l v0, .i v1] (ws S_rel_right.ap) S_rel_right.ah) (fun y => fixR Try.prog S_rel_right.plan S_rel_right.ah.length y) =
    (m_rel_right [.l v0, .i v1]).go br (fun _ => none) S_rel_right.fin := by
  rw [← callF_eq]; kernel_rfl
theorem e_rel_right : EOK Try.prog 70 (gF S_rel_right m_rel_right) :=
  eokTold mixed named x12 (loopsOK_list rids noneIn) 60 S_rel_right m_rel_right (by
    intro us v h; unfold m_rel_right at h; split at h
    · rename_i v0 v1; exact q_rel_right v0 v1
    · cases h) false
noncomputable abbrev X13 : Ext := extT [(70, (gF S_rel_right m_rel_right))] X12
theorem x13 : XOK Try.prog X13 := xok1 x12 e_rel_right

/-- cmp.isNaN[int] -/
def L_cmp_isNaN_int : FuncId → Nat → Option (List Nat) := liveT []
def M_cmp_isNaN_int : FuncId → Bool := fun _ => false
def S_cmp_isNaN_int : FSp := ⟨[.one (.i .i64)], [], [], [([.one (.b)], [])]⟩
noncomputable def m_cmp_isNaN_int : List U → Rt
  | [.i v0] =>
    (.stop 0 [.b (v0 != v0)])
  | _ => .fail
set_option maxRecDepth 100000 in
theorem q_cmp_isNaN_int (v0 : Int) : callK br Try.prog X13 M_cmp_isNaN_int L_cmp_isNaN_int (lsT []) 60 112 (encs [.i v0] 0 S_cmp_isNaN_int.ap) (encH [.i v0] (ws S_cmp_isNaN_int.ap) S_cmp_isNaN_int.ah) (fun y => fixR Try.prog S_cmp_isNaN_int.plan S_cmp_isNaN_int.ah.length y) =
    (m_cmp_isNaN_int [.i v0]).go br (fun _ => none) S_cmp_isNaN_int.fin := by
  rw [← callF_eq]; kernel_rfl
theorem e_cmp_isNaN_int : EOK Try.prog 112 (gI S_cmp_isNaN_int m_cmp_isNaN_int) :=
  eokTold mixed named x13 (loopsOK_list rids noneIn) 60 S_cmp_isNaN_int m_cmp_isNaN_int (by
    intro us v h; unfold m_cmp_isNaN_int at h; split at h
    · rename_i v0; exact q_cmp_isNaN_int v0
    · cases h) true
noncomputable abbrev X14 : Ext := extT [(112, (gI S_cmp_isNaN_int m_cmp_isNaN_int))] X13
theorem x14 : XOK Try.prog X14 := xok1 x13 e_cmp_isNaN_int

/-- cmp.Compare[int] -/
def L_cmp_Compare_int : FuncId → Nat → Option (List Nat) := liveT []
def M_cmp_Compare_int : FuncId → Bool := fun _ => false
def S_cmp_Compare_int : FSp := ⟨[.one (.i .i64), .one (.i .i64)], [], [], [([.one (.i .i64)], [])]⟩
noncomputable def m_cmp_Compare_int : List U → Rt
  | [.i v0, .i v1] =>
    (.test (v0 != v0)
    (.test (v1 != v1)
    (.stop 0 [.i ((0 : Int))])
    (.stop 0 [.i ((-1 : Int))]))
    (.test (v1 != v1)
    (.stop 0 [.i ((1 : Int))])
    (.test (decide (v0 < v1))
    (.stop 0 [.i ((-1 : Int))])
    (.test (decide (v0 > v1))
    (.stop 0 [.i ((1 : Int))])
    (.stop 0 [.i ((0 : Int))])))))
  | _ => .fail
set_option maxRecDepth 100000 in
theorem q_cmp_Compare_int (v0 : Int) (v1 : Int) : callK br Try.prog X14 M_cmp_Compare_int L_cmp_Compare_int (lsT []) 60 96 (encs [.i v0, .i v1] 0 S_cmp_Compare_int.ap) (encH [.i v0, .i v1] (ws S_cmp_Compare_int.ap) S_cmp_Compare_int.ah) (fun y => fixR Try.prog S_cmp_Compare_int.plan S_cmp_Compare_int.ah.length y) =
    (m_cmp_Compare_int [.i v0, .i v1]).go br (fun _ => none) S_cmp_Compare_int.fin := by
  rw [← callF_eq]; kernel_rfl
theorem e_cmp_Compare_int : EOK Try.prog 96 (gF S_cmp_Compare_int m_cmp_Compare_int) :=
  eokTold mixed named x14 (loopsOK_list rids noneIn) 60 S_cmp_Compare_int m_cmp_Compare_int (by
    intro us v h; unfold m_cmp_Compare_int at h; split at h
    · rename_i v0 v1; exact q_cmp_Compare_int v0 v1
    · cases h) false
noncomputable abbrev X15 : Ext := extT [(96, (gF S_cmp_Compare_int m_cmp_Compare_int))] X14
theorem x15 : XOK Try.prog X15 := xok1 x14 e_cmp_Compare_int

/-- levee/value.Compare -/
def L_value_Compare : FuncId → Nat → Option (List Nat) := liveT [(95, 3, [3, 6, 7, 8]), (95, 1000003, [3]), (95, 2000003, [2])]
def M_value_Compare : FuncId → Bool := fun _ => false
noncomputable def rd_value_Compare_95_3 : List U → Rt
  | [.i v0, .l v1, .i v2, .i v3] =>
    (.test (decide (v3 < v2))
    (.test (inR v3 (ln v1))
    (.test (cI (el v1 v3) 0 != v0)
    (.stop 0 [.i (cI (el v1 v3) 0)])
    (.next [.i v0, .l v1, .i v2, .i (w64 (v3 + (1 : Int)))]))
    .fail)
    (.stop 1 [.i v0]))
  | _ => .fail
def sp_value_Compare_95_3 : LSp := ⟨18, ⟨[(3, .one (.i .i64)), (6, .one (.l 3)), (7, .one (.i .i64)), (8, .one (.i .i64))], []⟩, [(.ret, ⟨[(2, .one (.i .i64))], []⟩), (.exit 0, ⟨[(3, .one (.i .i64))], []⟩)]⟩
set_option maxRecDepth 100000 in
theorem rq_value_Compare_95_3 (v0 : Int) (v1 : List (List PV)) (v2 : Int) (v3 : Int) : runK br Try.prog (callK br Try.prog X15 M_value_Compare L_value_Compare (lsT []) 40) M_value_Compare (lsT [] 95 0) 40 0 (L_value_Compare 95) (bodyOf Try.prog 95 3) (sp_value_Compare_95_3.s.ts sp_value_Compare_95_3.n [.i v0, .l v1, .i v2, .i v3]) (sp_value_Compare_95_3.s.h [.i v0, .l v1, .i v2, .i v3]) (idc Try.prog 0 (L_value_Compare 95) 3) =
    (rd_value_Compare_95_3 [.i v0, .l v1, .i v2, .i v3]).go br (fun us' => some (.normal, sp_value_Compare_95_3.s.ts sp_value_Compare_95_3.n us', sp_value_Compare_95_3.s.h us')) sp_value_Compare_95_3.fin := by
  rw [← callF_eq, ← runF_eq]; kernel_rfl
theorem lo_value_Compare_95_3 {R : Type} : LoopTells Try.prog X15 M_value_Compare L_value_Compare 0 (L_value_Compare 95) (bodyOf Try.prog 95 3) (gL (R := R) sp_value_Compare_95_3 rd_value_Compare_95_3 br) :=
  loopTold (callK_ev (loopsOK_list rids noneIn) 40) (lsokIn (loopsOK_list rids noneIn) 95 0 3) (by kernel_rfl) sp_value_Compare_95_3 rd_value_Compare_95_3 rfl (by kernel_rfl) (by
    intro us v h; unfold rd_value_Compare_95_3 at h; split at h
    · rename_i v0 v1 v2 v3; exact rq_value_Compare_95_3 v0 v1 v2 v3
    · cases h)
noncomputable abbrev ll_value_Compare_95_3 {R : Type} : List (Nat × Nat × Nat × Smy R) := (95, 0, 3, gL sp_value_Compare_95_3 rd_value_Compare_95_3 br) :: []
theorem lk_value_Compare_95_3 {R : Type} : ∀ e ∈ ll_value_Compare_95_3 (R := R), LoopTells Try.prog X15 M_value_Compare L_value_Compare e.2.1 (L_value_Compare e.1) (bodyOf Try.prog e.1 e.2.2.1) e.2.2.2 := List.forall_mem_cons.2 ⟨lo_value_Compare_95_3, noneIn⟩
def S_value_Compare : FSp := ⟨[.agg [.i .i64, .i .i64, .s], .agg [.i .i64, .i .i64, .s]], [], [], [([.one (.i .i64)], [])]⟩
noncomputable def m_value_Compare : List U → Rt
  | [.i v0, .i v1, .s v2, .i v3, .i v4, .s v5] =>
    (let r0 : Rs := (Rt.res (m_cmp_Compare_int [U.i v0, U.i v3]))
    (.test (ok r0 0)
    (let r1 : Rs := (Rt.res (m_cmp_Compare_int [U.i v1, U.i v4]))
    (.test (ok r1 0)
    (let r2 : Rs := (lres rd_value_Compare_95_3 [U.i (0 : Int), U.l [[pI (uI (out r0 0) 0)], [pI (uI (out r1 0) 0)], [pI (Lib.compareBytes (Array.toList (ByteArray.data v2)) (Array.toList (ByteArray.data v5)))]], U.i (3 : Int), U.i (0 : Int)])
    (.test (ok r2 0)
    (.stop 0 [.i (uI (out r2 0) 0)])
    (.test (ok r2 1)
    (.stop 0 [.i (uI (out r2 1) 0)])
    .fail)))
    .fail))
    .fail))
  | _ => .fail
set_option maxRecDepth 100000 in
theorem q_value_Compare (v0 : Int) (v1 : Int) (v2 : ByteArray) (v3 : Int) (v4 : Int) (v5 : ByteArray) : callK br Try.prog X15 M_value_Compare L_value_Compare (lsT ll_value_Compare_95_3) 60 71 (encs [.i v0, .i v1, .s v2, .i v3, .i v4, .s v5] 0 S_value_Compare.ap) (encH [.i v0, .i v1, .s v2, .i v3, .i v4, .s v5] (ws S_value_Compare.ap) S_value_Compare.ah) (fun y => fixR Try.prog S_value_Compare.plan S_value_Compare.ah.length y) =
    (m_value_Compare [.i v0, .i v1, .s v2, .i v3, .i v4, .s v5]).go br (fun _ => none) S_value_Compare.fin := by
  rw [← callF_eq]; kernel_rfl
theorem e_value_Compare : EOK Try.prog 71 (gF S_value_Compare m_value_Compare) :=
  eokTold mixed named x15 (loopsOK_list rids lk_value_Compare_95_3) 60 S_value_Compare m_value_Compare (by
    intro us v h; unfold m_value_Compare at h; split at h
    · rename_i v0 v1 v2 v3 v4 v5; exact q_value_Compare v0 v1 v2 v3 v4 v5
    · cases h) false
noncomputable abbrev X16 : Ext := extT [(71, (gF S_value_Compare m_value_Compare))] X15
theorem x16 : XOK Try.prog X16 := xok1 x15 e_value_Compare

/-- levee/rel.May -/
def L_rel_May : FuncId → Nat → Option (List Nat) := liveT [(40, 2, [1, 6, 7, 8]), (40, 1000002, []), (40, 2000002, [2])]
def M_rel_May : FuncId → Bool := fun _ => false
noncomputable def rd_rel_May_40_2 : List U → Rt
  | [.l v0, .i v1, .i v2, .s v3, .l v4] =>
    (.test (decide (v2 < v1))
    (.test (inR v2 (ln v0))
    (let r0 : Rs := (Rt.res (m_rel_right [U.l (cL (el v0 v2) 0), U.i (cI (el v0 v2) 1)]))
    (.test (ok r0 0)
    (.test (!uB (out r0 0) 0)
    (.stop 0 [.b false])
    (.test (decide (v2 > (0 : Int)))
    (.test (inR (w64 (v2 - (1 : Int))) (ln v4))
    (.test (inR (0 : Int) (ln (cL (el v4 (w64 (v2 - (1 : Int)))) 0)))
    (.test (inR (0 : Int) (ln (cL (el v0 v2) 0)))
    (let r1 : Rs := (Rt.res (m_value_Compare [U.i (cI (List.getD (cL (el v4 (w64 (v2 - (1 : Int)))) 0) 0 []) 0), U.i (cI (List.getD (cL (el v4 (w64 (v2 - (1 : Int)))) 0) 0 []) 1), U.s (cS (List.getD (cL (el v4 (w64 (v2 - (1 : Int)))) 0) 0 []) 2), U.i (cI (List.getD (cL (el v0 v2) 0) 0 []) 0), U.i (cI (List.getD (cL (el v0 v2) 0) 0 []) 1), U.s (cS (List.getD (cL (el v0 v2) 0) 0 []) 2)]))
    (.test (ok r1 0)
    (.test (decide (uI (out r1 0) 0 ≥ (0 : Int)))
    (.stop 0 [.b false])
    (.next [.l v0, .i v1, .i (w64 (v2 + (1 : Int))), .s v3, .l v4]))
    .fail))
    .fail)
    .fail)
    .fail)
    (.next [.l v0, .i v1, .i (w64 (v2 + (1 : Int))), .s v3, .l v4])))
    .fail))
    .fail)
    (.stop 1 []))
  | _ => .fail
def sp_rel_May_40_2 : LSp := ⟨38, ⟨[(1, .one (.ptr 0 0)), (6, .one (.l 59)), (7, .one (.i .i64)), (8, .one (.i .i64))], [.box 40 [.one (.s), .one (.l 59)]]⟩, [(.ret, ⟨[(2, .one (.b))], []⟩), (.exit 0, ⟨[], []⟩)]⟩
set_option maxRecDepth 100000 in
theorem rq_rel_May_40_2 (v0 : List (List PV)) (v1 : Int) (v2 : Int) (v3 : ByteArray) (v4 : List (List PV)) : runK br Try.prog (callK br Try.prog X16 M_rel_May L_rel_May (lsT []) 40) M_rel_May (lsT [] 40 0) 40 0 (L_rel_May 40) (bodyOf Try.prog 40 2) (sp_rel_May_40_2.s.ts sp_rel_May_40_2.n [.l v0, .i v1, .i v2, .s v3, .l v4]) (sp_rel_May_40_2.s.h [.l v0, .i v1, .i v2, .s v3, .l v4]) (idc Try.prog 0 (L_rel_May 40) 2) =
    (rd_rel_May_40_2 [.l v0, .i v1, .i v2, .s v3, .l v4]).go br (fun us' => some (.normal, sp_rel_May_40_2.s.ts sp_rel_May_40_2.n us', sp_rel_May_40_2.s.h us')) sp_rel_May_40_2.fin := by
  rw [← callF_eq, ← runF_eq]; kernel_rfl
theorem lo_rel_May_40_2 {R : Type} : LoopTells Try.prog X16 M_rel_May L_rel_May 0 (L_rel_May 40) (bodyOf Try.prog 40 2) (gL (R := R) sp_rel_May_40_2 rd_rel_May_40_2 br) :=
  loopTold (callK_ev (loopsOK_list rids noneIn) 40) (lsokIn (loopsOK_list rids noneIn) 40 0 2) (by kernel_rfl) sp_rel_May_40_2 rd_rel_May_40_2 rfl (by kernel_rfl) (by
    intro us v h; unfold rd_rel_May_40_2 at h; split at h
    · rename_i v0 v1 v2 v3 v4; exact rq_rel_May_40_2 v0 v1 v2 v3 v4
    · cases h)
noncomputable abbrev ll_rel_May_40_2 {R : Type} : List (Nat × Nat × Nat × Smy R) := (40, 0, 2, gL sp_rel_May_40_2 rd_rel_May_40_2 br) :: []
theorem lk_rel_May_40_2 {R : Type} : ∀ e ∈ ll_rel_May_40_2 (R := R), LoopTells Try.prog X16 M_rel_May L_rel_May e.2.1 (L_rel_May e.1) (bodyOf Try.prog e.1 e.2.2.1) e.2.2.2 := List.forall_mem_cons.2 ⟨lo_rel_May_40_2, noneIn⟩
def S_rel_May : FSp := ⟨[.agg [.s, .l 59]], [], [], [([.one (.b)], [])]⟩
noncomputable def m_rel_May : List U → Rt
  | [.s v0, .l v1] =>
    (let r0 : Rs := (lres rd_rel_May_40_2 [U.l v1, U.i (ln v1), U.i (0 : Int), U.s v0, U.l v1])
    (.test (ok r0 0)
    (.stop 0 [.b (uB (out r0 0) 0)])
    (.test (ok r0 1)
    (.stop 0 [.b true])
    .fail)))
  | _ => .fail
set_option maxRecDepth 100000 in
theorem q_rel_May (v0 : ByteArray) (v1 : List (List PV)) : callK br Try.prog X16 M_rel_May L_rel_May (lsT ll_rel_May_40_2) 60 40 (encs [.s v0, .l v1] 0 S_rel_May.ap) (encH [.s v0, .l v1] (ws S_rel_May.ap) S_rel_May.ah) (fun y => fixR Try.prog S_rel_May.plan S_rel_May.ah.length y) =
    (m_rel_May [.s v0, .l v1]).go br (fun _ => none) S_rel_May.fin := by
  rw [← callF_eq]; kernel_rfl
theorem e_rel_May : EOK Try.prog 40 (gF S_rel_May m_rel_May) :=
  eokTold mixed named x16 (loopsOK_list rids lk_rel_May_40_2) 60 S_rel_May m_rel_May (by
    intro us v h; unfold m_rel_May at h; split at h
    · rename_i v0 v1; exact q_rel_May v0 v1
    · cases h) false
noncomputable abbrev X17 : Ext := extT [(40, (gF S_rel_May m_rel_May))] X16
theorem x17 : XOK Try.prog X17 := xok1 x16 e_rel_May

/-- levee/rel.find -/
def L_rel_find : FuncId → Nat → Option (List Nat) := liveT [(92, 3, [0, 2, 4, 8, 9, 10]), (92, 1000003, [0, 2, 4, 8, 9]), (92, 2000003, [6, 7])]
def M_rel_find : FuncId → Bool := fun _ => false
noncomputable def rd_rel_find_92_3 : List U → Rt
  | [.l v0, .i v1, .i v2, .i v3, .i v4, .i v5, .s v6] =>
    (.test (decide (v2 < v3))
    (.test (inR (w64 (Int.fdiv (IntKind.wrap IntKind.u64 (w64 (v2 + v3))) (2 : Int))) (ln v0))
    (.test (inR (0 : Int) (ln (cL (el v0 (w64 (Int.fdiv (IntKind.wrap IntKind.u64 (w64 (v2 + v3))) (2 : Int)))) 0)))
    (let r0 : Rs := (Rt.res (m_value_Compare [U.i (cI (List.getD (cL (el v0 (w64 (Int.fdiv (IntKind.wrap IntKind.u64 (w64 (v2 + v3))) (2 : Int)))) 0) 0 []) 0), U.i (cI (List.getD (cL (el v0 (w64 (Int.fdiv (IntKind.wrap IntKind.u64 (w64 (v2 + v3))) (2 : Int)))) 0) 0 []) 1), U.s (cS (List.getD (cL (el v0 (w64 (Int.fdiv (IntKind.wrap IntKind.u64 (w64 (v2 + v3))) (2 : Int)))) 0) 0 []) 2), U.i v4, U.i v5, U.s v6]))
    (.test (ok r0 0)
    (.test (decide (uI (out r0 0) 0 < (0 : Int)))
    (.next [.l v0, .i v1, .i (w64 (w64 (Int.fdiv (IntKind.wrap IntKind.u64 (w64 (v2 + v3))) (2 : Int)) + (1 : Int))), .i v3, .i v4, .i v5, .s v6])
    (.next [.l v0, .i v1, .i v2, .i (w64 (Int.fdiv (IntKind.wrap IntKind.u64 (w64 (v2 + v3))) (2 : Int))), .i v4, .i v5, .s v6]))
    .fail))
    .fail)
    .fail)
    (.stop 0 [.l v0, .i v1, .i v2, .i v4, .i v5, .s v6]))
  | _ => .fail
def sp_rel_find_92_3 : LSp := ⟨49, ⟨[(0, .one (.l 59)), (2, .fn 93 []), (4, .one (.ptr 0 0)), (8, .one (.i .i64)), (9, .one (.i .i64)), (10, .one (.i .i64))], [.box 24 [.one (.i .i64), .one (.i .i64), .one (.s)]]⟩, [(.exit 0, ⟨[(0, .one (.l 59)), (2, .fn 93 []), (4, .one (.ptr 0 0)), (8, .one (.i .i64)), (9, .one (.i .i64))], [.box 24 [.one (.i .i64), .one (.i .i64), .one (.s)]]⟩)]⟩
set_option maxRecDepth 100000 in
theorem rq_rel_find_92_3 (v0 : List (List PV)) (v1 : Int) (v2 : Int) (v3 : Int) (v4 : Int) (v5 : Int) (v6 : ByteArray) : runK br Try.prog (callK br Try.prog X17 M_rel_find L_rel_find (lsT []) 40) M_rel_find (lsT [] 92 0) 40 0 (L_rel_find 92) (bodyOf Try.prog 92 3) (sp_rel_find_92_3.s.ts sp_rel_find_92_3.n [.l v0, .i v1, .i v2, .i v3, .i v4, .i v5, .s v6]) (sp_rel_find_92_3.s.h [.l v0, .i v1, .i v2, .i v3, .i v4, .i v5, .s v6]) (idc Try.prog 0 (L_rel_find 92) 3) =
    (rd_rel_find_92_3 [.l v0, .i v1, .i v2, .i v3, .i v4, .i v5, .s v6]).go br (fun us' => some (.normal, sp_rel_find_92_3.s.ts sp_rel_find_92_3.n us', sp_rel_find_92_3.s.h us')) sp_rel_find_92_3.fin := by
  rw [← callF_eq, ← runF_eq]; kernel_rfl
theorem lo_rel_find_92_3 {R : Type} : LoopTells Try.prog X17 M_rel_find L_rel_find 0 (L_rel_find 92) (bodyOf Try.prog 92 3) (gL (R := R) sp_rel_find_92_3 rd_rel_find_92_3 br) :=
  loopTold (callK_ev (loopsOK_list rids noneIn) 40) (lsokIn (loopsOK_list rids noneIn) 92 0 3) (by kernel_rfl) sp_rel_find_92_3 rd_rel_find_92_3 rfl (by kernel_rfl) (by
    intro us v h; unfold rd_rel_find_92_3 at h; split at h
    · rename_i v0 v1 v2 v3 v4 v5 v6; exact rq_rel_find_92_3 v0 v1 v2 v3 v4 v5 v6
    · cases h)
noncomputable abbrev ll_rel_find_92_3 {R : Type} : List (Nat × Nat × Nat × Smy R) := (92, 0, 3, gL sp_rel_find_92_3 rd_rel_find_92_3 br) :: []
theorem lk_rel_find_92_3 {R : Type} : ∀ e ∈ ll_rel_find_92_3 (R := R), LoopTells Try.prog X17 M_rel_find L_rel_find e.2.1 (L_rel_find e.1) (bodyOf Try.prog e.1 e.2.2.1) e.2.2.2 := List.forall_mem_cons.2 ⟨lo_rel_find_92_3, noneIn⟩
def S_rel_find : FSp := ⟨[.agg [.s, .l 59], .agg [.i .i64, .i .i64, .s]], [], [], [([.one (.i .i64), .one (.b)], [])]⟩
noncomputable def m_rel_find : List U → Rt
  | [.s v0, .l v1, .i v2, .i v3, .s v4] =>
    (let r0 : Rs := (lres rd_rel_find_92_3 [U.l v1, U.i (ln v1), U.i (0 : Int), U.i (ln v1), U.i v2, U.i v3, U.s v4])
    (.test (ok r0 0)
    (.test (decide (uI (out r0 0) 2 < uI (out r0 0) 1))
    (.test (inR (uI (out r0 0) 2) (ln (uL (out r0 0) 0)))
    (.test (inR (0 : Int) (ln (cL (el (uL (out r0 0) 0) (uI (out r0 0) 2)) 0)))
    (let r1 : Rs := (Rt.res (m_value_Compare [U.i (cI (List.getD (cL (el (uL (out r0 0) 0) (uI (out r0 0) 2)) 0) 0 []) 0), U.i (cI (List.getD (cL (el (uL (out r0 0) 0) (uI (out r0 0) 2)) 0) 0 []) 1), U.s (cS (List.getD (cL (el (uL (out r0 0) 0) (uI (out r0 0) 2)) 0) 0 []) 2), U.i (uI (out r0 0) 3), U.i (uI (out r0 0) 4), U.s (uS (out r0 0) 5)]))
    (.test (ok r1 0)
    (.stop 0 [.i (uI (out r0 0) 2), .b (uI (out r1 0) 0 == (0 : Int))])
    .fail))
    .fail)
    .fail)
    (.stop 0 [.i (uI (out r0 0) 2), .b false]))
    .fail))
  | _ => .fail
set_option maxRecDepth 100000 in
theorem q_rel_find (v0 : ByteArray) (v1 : List (List PV)) (v2 : Int) (v3 : Int) (v4 : ByteArray) : callK br Try.prog X17 M_rel_find L_rel_find (lsT ll_rel_find_92_3) 60 66 (encs [.s v0, .l v1, .i v2, .i v3, .s v4] 0 S_rel_find.ap) (encH [.s v0, .l v1, .i v2, .i v3, .s v4] (ws S_rel_find.ap) S_rel_find.ah) (fun y => fixR Try.prog S_rel_find.plan S_rel_find.ah.length y) =
    (m_rel_find [.s v0, .l v1, .i v2, .i v3, .s v4]).go br (fun _ => none) S_rel_find.fin := by
  rw [← callF_eq]; kernel_rfl
theorem e_rel_find : EOK Try.prog 66 (gF S_rel_find m_rel_find) :=
  eokTold mixed named x17 (loopsOK_list rids lk_rel_find_92_3) 60 S_rel_find m_rel_find (by
    intro us v h; unfold m_rel_find at h; split at h
    · rename_i v0 v1 v2 v3 v4; exact q_rel_find v0 v1 v2 v3 v4
    · cases h) false
noncomputable abbrev X18 : Ext := extT [(66, (gF S_rel_find m_rel_find))] X17
theorem x18 : XOK Try.prog X18 := xok1 x17 e_rel_find

/-- levee/rel.copied -/
def L_rel_copied : FuncId → Nat → Option (List Nat) := liveT []
def M_rel_copied : FuncId → Bool := fun _ => false
def S_rel_copied : FSp := ⟨[.agg [.l 24, .i .i64]], [], [], [([.agg [.all 0, .i .i64]], [.arr 24 true])]⟩
noncomputable def m_rel_copied : List U → Rt
  | [.l v0, .i v1] =>
    (.test (decide ((0 + List.length v0) * 32 ≤ 140737488355328))
    (.stop 0 [.i v1, .l v0])
    .fail)
  | _ => .fail
set_option maxRecDepth 100000 in
theorem q_rel_copied (v0 : List (List PV)) (v1 : Int) : callK br Try.prog X18 M_rel_copied L_rel_copied (lsT []) 60 67 (encs [.l v0, .i v1] 0 S_rel_copied.ap) (encH [.l v0, .i v1] (ws S_rel_copied.ap) S_rel_copied.ah) (fun y => fixR Try.prog S_rel_copied.plan S_rel_copied.ah.length y) =
    (m_rel_copied [.l v0, .i v1]).go br (fun _ => none) S_rel_copied.fin := by
  rw [← callF_eq]; kernel_rfl
theorem e_rel_copied : EOK Try.prog 67 (gI S_rel_copied m_rel_copied) :=
  eokTold mixed named x18 (loopsOK_list rids noneIn) 60 S_rel_copied m_rel_copied (by
    intro us v h; unfold m_rel_copied at h; split at h
    · rename_i v0 v1; exact q_rel_copied v0 v1
    · cases h) true
noncomputable abbrev X19 : Ext := extT [(67, (gI S_rel_copied m_rel_copied))] X18
theorem x19 : XOK Try.prog X19 := xok1 x18 e_rel_copied

/-- levee/rel.Get -/
def L_rel_Get : FuncId → Nat → Option (List Nat) := liveT []
def M_rel_Get : FuncId → Bool := fun _ => false
def S_rel_Get : FSp := ⟨[.agg [.s, .l 59], .agg [.i .i64, .i .i64, .s]], [], [1000049000000], [([.agg [.all 0, .i .i64], .one (.b)], [.arr 24 true])]⟩
noncomputable def m_rel_Get : List U → Rt
  | [.s v0, .l v1, .i v2, .i v3, .s v4] =>
    (let r0 : Rs := (Rt.res (m_rel_May [U.s v0, U.l v1]))
    (.test (ok r0 0)
    (.test (!uB (out r0 0) 0)
    (.stop 0 [.i ((0 : Int)), .b false, .l []])
    (let r1 : Rs := (Rt.res (m_rel_find [U.s v0, U.l v1, U.i v2, U.i v3, U.s v4]))
    (.test (ok r1 0)
    (.test (!uB (out r1 0) 1)
    (.stop 0 [.i ((0 : Int)), .b false, .l []])
    (.test (inR (uI (out r1 0) 0) (ln v1))
    (.test (decide ((0 + List.length (cL (el v1 (uI (out r1 0) 0)) 0)) * 32 ≤ 140737488355328))
    (.stop 0 [.i (cI (el v1 (uI (out r1 0) 0)) 1), .b true, .l (cL (el v1 (uI (out r1 0) 0)) 0)])
    .fail)
    .fail))
    .fail)))
    .fail))
  | _ => .fail
set_option maxRecDepth 100000 in
theorem q_rel_Get (v0 : ByteArray) (v1 : List (List PV)) (v2 : Int) (v3 : Int) (v4 : ByteArray) : callK br Try.prog X19 M_rel_Get L_rel_Get (lsT []) 60 38 (encs [.s v0, .l v1, .i v2, .i v3, .s v4] 0 S_rel_Get.ap) (encH [.s v0, .l v1, .i v2, .i v3, .s v4] (ws S_rel_Get.ap) S_rel_Get.ah) (fun y => fixR Try.prog S_rel_Get.plan S_rel_Get.ah.length y) =
    (m_rel_Get [.s v0, .l v1, .i v2, .i v3, .s v4]).go br (fun _ => none) S_rel_Get.fin := by
  rw [← callF_eq]; kernel_rfl
theorem e_rel_Get : EOK Try.prog 38 (gF S_rel_Get m_rel_Get) :=
  eokTold mixed named x19 (loopsOK_list rids noneIn) 60 S_rel_Get m_rel_Get (by
    intro us v h; unfold m_rel_Get at h; split at h
    · rename_i v0 v1 v2 v3 v4; exact q_rel_Get v0 v1 v2 v3 v4
    · cases h) false
noncomputable abbrev X20 : Ext := extT [(38, (gF S_rel_Get m_rel_Get))] X19
theorem x20 : XOK Try.prog X20 := xok1 x19 e_rel_Get

/-- levee/reads.One -/
def L_reads_One : FuncId → Nat → Option (List Nat) := liveT []
def M_reads_One : FuncId → Bool := fun _ => false
def S_reads_One : FSp := ⟨[.one (.l 40), .one (.s), .agg [.i .i64, .i .i64, .s]], [], [], [([.agg [.s, .i .i64, .i .i64, .s, .i .i64]], [])]⟩
noncomputable def m_reads_One : List U → Rt
  | [.l v0, .s v1, .i v2, .i v3, .s v4] =>
    (let r0 : Rs := (Rt.res (m_reads_Look [U.l v0, U.s v1]))
    (.test (ok r0 0)
    (let r1 : Rs := (Rt.res (m_rel_Get [U.s (uS (out r0 0) 0), U.l (uL (out r0 0) 1), U.i v2, U.i v3, U.s v4]))
    (.test (ok r1 0)
    (.stop 0 [.s v1, .i v2, .i v3, .s v4, .i (uI (out r1 0) 0)])
    .fail))
    .fail))
  | _ => .fail
set_option maxRecDepth 100000 in
theorem q_reads_One (v0 : List (List PV)) (v1 : ByteArray) (v2 : Int) (v3 : Int) (v4 : ByteArray) : callK br Try.prog X20 M_reads_One L_reads_One (lsT []) 60 20 (encs [.l v0, .s v1, .i v2, .i v3, .s v4] 0 S_reads_One.ap) (encH [.l v0, .s v1, .i v2, .i v3, .s v4] (ws S_reads_One.ap) S_reads_One.ah) (fun y => fixR Try.prog S_reads_One.plan S_reads_One.ah.length y) =
    (m_reads_One [.l v0, .s v1, .i v2, .i v3, .s v4]).go br (fun _ => none) S_reads_One.fin := by
  rw [← callF_eq]; kernel_rfl
theorem e_reads_One : EOK Try.prog 20 (gF S_reads_One m_reads_One) :=
  eokTold mixed named x20 (loopsOK_list rids noneIn) 60 S_reads_One m_reads_One (by
    intro us v h; unfold m_reads_One at h; split at h
    · rename_i v0 v1 v2 v3 v4; exact q_reads_One v0 v1 v2 v3 v4
    · cases h) false
noncomputable abbrev X21 : Ext := extT [(20, (gF S_reads_One m_reads_One))] X20
theorem x21 : XOK Try.prog X21 := xok1 x20 e_reads_One

/-- levee/rel.some -/
def L_rel_some : FuncId → Nat → Option (List Nat) := liveT [(69, 3, [119000003, 6, 7, 8]), (69, 1000003, [3]), (69, 2000003, [2])]
def M_rel_some : FuncId → Bool := fun _ => false
noncomputable def rd_rel_some_69_3 : List U → Rt
  | [.l v0, .i v1, .i v2, .l v3] =>
    (.test (decide (v2 < v1))
    (.test (inR v2 (ln v0))
    (.test (decide ((0 + List.length (cL (el v0 v2) 0)) * 32 ≤ 140737488355328))
    (.test (decide ((List.length v3 + 1) * 32 ≤ 140737488355328))
    (.next [.l v0, .i v1, .i (w64 (v2 + (1 : Int))), .l (v3 ++ [[PV.lst 24 (cL (el v0 v2) 0), pI (cI (el v0 v2) 1)]])])
    .fail)
    .fail)
    .fail)
    (.stop 0 [.l v3]))
  | _ => .fail
def sp_rel_some_69_3 : LSp := ⟨19, ⟨[(3, .one (.all 0)), (6, .one (.l 59)), (7, .one (.i .i64)), (8, .one (.i .i64))], [.arr 59 true]⟩, [(.exit 0, ⟨[(3, .one (.all 0))], [.arr 59 true]⟩)]⟩
set_option maxRecDepth 100000 in
theorem rq_rel_some_69_3 (v0 : List (List PV)) (v1 : Int) (v2 : Int) (v3 : List (List PV)) : runK br Try.prog (callK br Try.prog X21 M_rel_some L_rel_some (lsT []) 40) M_rel_some (lsT [] 69 0) 40 0 (L_rel_some 69) (bodyOf Try.prog 69 3) (sp_rel_some_69_3.s.ts sp_rel_some_69_3.n [.l v0, .i v1, .i v2, .l v3]) (sp_rel_some_69_3.s.h [.l v0, .i v1, .i v2, .l v3]) (idc Try.prog 0 (L_rel_some 69) 3) =
    (rd_rel_some_69_3 [.l v0, .i v1, .i v2, .l v3]).go br (fun us' => some (.normal, sp_rel_some_69_3.s.ts sp_rel_some_69_3.n us', sp_rel_some_69_3.s.h us')) sp_rel_some_69_3.fin := by
  rw [← callF_eq, ← runF_eq]; kernel_rfl
theorem lo_rel_some_69_3 {R : Type} : LoopTells Try.prog X21 M_rel_some L_rel_some 0 (L_rel_some 69) (bodyOf Try.prog 69 3) (gL (R := R) sp_rel_some_69_3 rd_rel_some_69_3 br) :=
  loopTold (callK_ev (loopsOK_list rids noneIn) 40) (lsokIn (loopsOK_list rids noneIn) 69 0 3) (by kernel_rfl) sp_rel_some_69_3 rd_rel_some_69_3 rfl (by kernel_rfl) (by
    intro us v h; unfold rd_rel_some_69_3 at h; split at h
    · rename_i v0 v1 v2 v3; exact rq_rel_some_69_3 v0 v1 v2 v3
    · cases h)
noncomputable abbrev ll_rel_some_69_3 {R : Type} : List (Nat × Nat × Nat × Smy R) := (69, 0, 3, gL sp_rel_some_69_3 rd_rel_some_69_3 br) :: []
theorem lk_rel_some_69_3 {R : Type} : ∀ e ∈ ll_rel_some_69_3 (R := R), LoopTells Try.prog X21 M_rel_some L_rel_some e.2.1 (L_rel_some e.1) (bodyOf Try.prog e.1 e.2.2.1) e.2.2.2 := List.forall_mem_cons.2 ⟨lo_rel_some_69_3, noneIn⟩
def S_rel_some : FSp := ⟨[.one (.l 59)], [], [], [([.one (.all 0)], [.arr 59 true])]⟩
noncomputable def m_rel_some : List U → Rt
  | [.l v0] =>
    (let r0 : Rs := (lres rd_rel_some_69_3 [U.l v0, U.i (ln v0), U.i (0 : Int), U.l []])
    (.test (ok r0 0)
    (.stop 0 [.l (uL (out r0 0) 0)])
    .fail))
  | _ => .fail
set_option maxRecDepth 100000 in
theorem q_rel_some (v0 : List (List PV)) : callK br Try.prog X21 M_rel_some L_rel_some (lsT ll_rel_some_69_3) 60 69 (encs [.l v0] 0 S_rel_some.ap) (encH [.l v0] (ws S_rel_some.ap) S_rel_some.ah) (fun y => fixR Try.prog S_rel_some.plan S_rel_some.ah.length y) =
    (m_rel_some [.l v0]).go br (fun _ => none) S_rel_some.fin := by
  rw [← callF_eq]; kernel_rfl
theorem e_rel_some : EOK Try.prog 69 (gF S_rel_some m_rel_some) :=
  eokTold mixed named x21 (loopsOK_list rids lk_rel_some_69_3) 60 S_rel_some m_rel_some (by
    intro us v h; unfold m_rel_some at h; split at h
    · rename_i v0; exact q_rel_some v0
    · cases h) false
noncomputable abbrev X22 : Ext := extT [(69, (gF S_rel_some m_rel_some))] X21
theorem x22 : XOK Try.prog X22 := xok1 x21 e_rel_some

/-- levee/rel.Scan -/
def L_rel_Scan : FuncId → Nat → Option (List Nat) := liveT []
def M_rel_Scan : FuncId → Bool := fun _ => false
def S_rel_Scan : FSp := ⟨[.agg [.s, .l 59], .agg [.i .i64, .i .i64, .s], .agg [.i .i64, .i .i64, .s]], [], [119000000], [([.one (.all 0)], [.arr 59 true])]⟩
noncomputable def m_rel_Scan : List U → Rt
  | [.s v0, .l v1, .i v2, .i v3, .s v4, .i v5, .i v6, .s v7] =>
    (let r0 : Rs := (Rt.res (m_rel_May [U.s v0, U.l v1]))
    (.test (ok r0 0)
    (.test (!uB (out r0 0) 0)
    (.stop 0 [.l []])
    (let r1 : Rs := (Rt.res (m_value_Compare [U.i v2, U.i v3, U.s v4, U.i v5, U.i v6, U.s v7]))
    (.test (ok r1 0)
    (.test (decide (uI (out r1 0) 0 ≥ (0 : Int)))
    (.stop 0 [.l []])
    (let r2 : Rs := (Rt.res (m_rel_find [U.s v0, U.l v1, U.i v2, U.i v3, U.s v4]))
    (.test (ok r2 0)
    (let r3 : Rs := (Rt.res (m_rel_find [U.s v0, U.l v1, U.i v5, U.i v6, U.s v7]))
    (.test (ok r3 0)
    (.test (decide ((0 : Int) ≤ uI (out r2 0) 0 ∧ uI (out r2 0) 0 ≤ uI (out r3 0) 0 ∧ uI (out r3 0) 0 ≤ ln v1))
    (let r4 : Rs := (Rt.res (m_rel_some [U.l (List.take (Int.toNat (uI (out r3 0) 0) - Int.toNat (uI (out r2 0) 0)) (List.drop (Int.toNat (uI (out r2 0) 0)) v1))]))
    (.test (ok r4 0)
    (.stop 0 [.l (uL (out r4 0) 0)])
    .fail))
    .fail)
    .fail))
    .fail)))
    .fail)))
    .fail))
  | _ => .fail
set_option maxRecDepth 100000 in
theorem q_rel_Scan (v0 : ByteArray) (v1 : List (List PV)) (v2 : Int) (v3 : Int) (v4 : ByteArray) (v5 : Int) (v6 : Int) (v7 : ByteArray) : callK br Try.prog X22 M_rel_Scan L_rel_Scan (lsT []) 60 43 (encs [.s v0, .l v1, .i v2, .i v3, .s v4, .i v5, .i v6, .s v7] 0 S_rel_Scan.ap) (encH [.s v0, .l v1, .i v2, .i v3, .s v4, .i v5, .i v6, .s v7] (ws S_rel_Scan.ap) S_rel_Scan.ah) (fun y => fixR Try.prog S_rel_Scan.plan S_rel_Scan.ah.length y) =
    (m_rel_Scan [.s v0, .l v1, .i v2, .i v3, .s v4, .i v5, .i v6, .s v7]).go br (fun _ => none) S_rel_Scan.fin := by
  rw [← callF_eq]; kernel_rfl
theorem e_rel_Scan : EOK Try.prog 43 (gF S_rel_Scan m_rel_Scan) :=
  eokTold mixed named x22 (loopsOK_list rids noneIn) 60 S_rel_Scan m_rel_Scan (by
    intro us v h; unfold m_rel_Scan at h; split at h
    · rename_i v0 v1 v2 v3 v4 v5 v6 v7; exact q_rel_Scan v0 v1 v2 v3 v4 v5 v6 v7
    · cases h) false
noncomputable abbrev X23 : Ext := extT [(43, (gF S_rel_Scan m_rel_Scan))] X22
theorem x23 : XOK Try.prog X23 := xok1 x22 e_rel_Scan

/-- levee/reads.Between -/
def L_reads_Between : FuncId → Nat → Option (List Nat) := liveT [(23, 3, [1, 8, 9, 21, 22, 23] ++ [8000087000009]), (23, 1000003, [8, 9]), (23, 2000003, [8])]
def M_reads_Between : FuncId → Bool := fun _ => false
noncomputable def rd_reads_Between_23_3 : List U → Rt
  | [.s v0, .i v1, .i v2, .s v3, .i v4, .i v5, .s v6, .i v7, .i v8, .s v9, .s v10, .i v11, .i v12, .s v13, .i v14, .i v15, .s v16, .l v17, .l v18] =>
    (.test (decide (v2 < v1))
    (.test (inR v2 (ln v17))
    (.test (decide (Int.toNat v2 < List.length v17))
    (.test (inR (0 : Int) (ln (cL (el v17 v2) 0)))
    (.test (decide ((List.length v18 + 1) * 56 ≤ 140737488355328))
    (.next [.s v0, .i v1, .i (w64 (v2 + (1 : Int))), .s v3, .i v4, .i v5, .s v6, .i v7, .i v8, .s v9, .s v10, .i v11, .i v12, .s v13, .i v14, .i v15, .s v16, .l v17, .l (v18 ++ [[pS v0, pI (cI (List.getD (cL (el v17 v2) 0) 0 []) 0), pI (cI (List.getD (cL (el v17 v2) 0) 0 []) 1), pS (cS (List.getD (cL (el v17 v2) 0) 0 []) 2), pI (cI (el v17 v2) 1)]])])
    .fail)
    .fail)
    .fail)
    .fail)
    (.stop 0 [.s v3, .i v4, .i v5, .s v6, .i v7, .i v8, .s v9, .s v10, .i v11, .i v12, .s v13, .i v14, .i v15, .s v16, .l v18]))
  | _ => .fail
def sp_reads_Between_23_3 : LSp := ⟨42, ⟨[(1, .one (.s)), (8, .one (.ptr 0 0)), (9, .one (.ptr 1 0)), (21, .one (.all 2)), (22, .one (.i .i64)), (23, .one (.i .i64))], [.box 47 [.one (.s), .one (.i .i64), .one (.i .i64), .one (.s), .one (.i .i64), .one (.i .i64), .one (.s), .one (.nils)], .box 47 [.one (.s), .one (.i .i64), .one (.i .i64), .one (.s), .one (.i .i64), .one (.i .i64), .one (.s), .one (.all 3)], .arr 59 true, .arr 43 true]⟩, [(.exit 0, ⟨[(8, .one (.ptr 0 0)), (9, .one (.ptr 1 0))], [.box 47 [.one (.s), .one (.i .i64), .one (.i .i64), .one (.s), .one (.i .i64), .one (.i .i64), .one (.s), .one (.nils)], .box 47 [.one (.s), .one (.i .i64), .one (.i .i64), .one (.s), .one (.i .i64), .one (.i .i64), .one (.s), .one (.all 2)], .arr 43 true]⟩)]⟩
set_option maxRecDepth 100000 in
theorem rq_reads_Between_23_3 (v0 : ByteArray) (v1 : Int) (v2 : Int) (v3 : ByteArray) (v4 : Int) (v5 : Int) (v6 : ByteArray) (v7 : Int) (v8 : Int) (v9 : ByteArray) (v10 : ByteArray) (v11 : Int) (v12 : Int) (v13 : ByteArray) (v14 : Int) (v15 : Int) (v16 : ByteArray) (v17 : List (List PV)) (v18 : List (List PV)) : runK br Try.prog (callK br Try.prog X23 M_reads_Between L_reads_Between (lsT []) 40) M_reads_Between (lsT [] 23 0) 40 0 (L_reads_Between 23) (bodyOf Try.prog 23 3) (sp_reads_Between_23_3.s.ts sp_reads_Between_23_3.n [.s v0, .i v1, .i v2, .s v3, .i v4, .i v5, .s v6, .i v7, .i v8, .s v9, .s v10, .i v11, .i v12, .s v13, .i v14, .i v15, .s v16, .l v17, .l v18]) (sp_reads_Between_23_3.s.h [.s v0, .i v1, .i v2, .s v3, .i v4, .i v5, .s v6, .i v7, .i v8, .s v9, .s v10, .i v11, .i v12, .s v13, .i v14, .i v15, .s v16, .l v17, .l v18]) (idc Try.prog 0 (L_reads_Between 23) 3) =
    (rd_reads_Between_23_3 [.s v0, .i v1, .i v2, .s v3, .i v4, .i v5, .s v6, .i v7, .i v8, .s v9, .s v10, .i v11, .i v12, .s v13, .i v14, .i v15, .s v16, .l v17, .l v18]).go br (fun us' => some (.normal, sp_reads_Between_23_3.s.ts sp_reads_Between_23_3.n us', sp_reads_Between_23_3.s.h us')) sp_reads_Between_23_3.fin := by
  rw [← callF_eq, ← runF_eq]; kernel_rfl
theorem lo_reads_Between_23_3 {R : Type} : LoopTells Try.prog X23 M_reads_Between L_reads_Between 0 (L_reads_Between 23) (bodyOf Try.prog 23 3) (gL (R := R) sp_reads_Between_23_3 rd_reads_Between_23_3 br) :=
  loopTold (callK_ev (loopsOK_list rids noneIn) 40) (lsokIn (loopsOK_list rids noneIn) 23 0 3) (by kernel_rfl) sp_reads_Between_23_3 rd_reads_Between_23_3 rfl (by kernel_rfl) (by
    intro us v h; unfold rd_reads_Between_23_3 at h; split at h
    · rename_i v0 v1 v2 v3 v4 v5 v6 v7 v8 v9 v10 v11 v12 v13 v14 v15 v16 v17 v18; exact rq_reads_Between_23_3 v0 v1 v2 v3 v4 v5 v6 v7 v8 v9 v10 v11 v12 v13 v14 v15 v16 v17 v18
    · cases h)
noncomputable abbrev ll_reads_Between_23_3 {R : Type} : List (Nat × Nat × Nat × Smy R) := (23, 0, 3, gL sp_reads_Between_23_3 rd_reads_Between_23_3 br) :: []
theorem lk_reads_Between_23_3 {R : Type} : ∀ e ∈ ll_reads_Between_23_3 (R := R), LoopTells Try.prog X23 M_reads_Between L_reads_Between e.2.1 (L_reads_Between e.1) (bodyOf Try.prog e.1 e.2.2.1) e.2.2.2 := List.forall_mem_cons.2 ⟨lo_reads_Between_23_3, noneIn⟩
def S_reads_Between : FSp := ⟨[.one (.l 40), .one (.s), .agg [.i .i64, .i .i64, .s], .agg [.i .i64, .i .i64, .s]], [], [], [([.agg [.s, .i .i64, .i .i64, .s, .i .i64, .i .i64, .s, .all 0]], [.arr 43 true])]⟩
noncomputable def m_reads_Between : List U → Rt
  | [.l v0, .s v1, .i v2, .i v3, .s v4, .i v5, .i v6, .s v7] =>
    (let r0 : Rs := (Rt.res (m_reads_Look [U.l v0, U.s v1]))
    (.test (ok r0 0)
    (let r1 : Rs := (Rt.res (m_rel_Scan [U.s (uS (out r0 0) 0), U.l (uL (out r0 0) 1), U.i v2, U.i v3, U.s v4, U.i v5, U.i v6, U.s v7]))
    (.test (ok r1 0)
    (let r2 : Rs := (lres rd_reads_Between_23_3 [U.s v1, U.i (ln (uL (out r1 0) 0)), U.i (0 : Int), U.s { data := #[] }, U.i (0 : Int), U.i (0 : Int), U.s { data := #[] }, U.i (0 : Int), U.i (0 : Int), U.s { data := #[] }, U.s v1, U.i v2, U.i v3, U.s v4, U.i v5, U.i v6, U.s v7, U.l (uL (out r1 0) 0), U.l []])
    (.test (ok r2 0)
    (.stop 0 [.s (uS (out r2 0) 7), .i (uI (out r2 0) 8), .i (uI (out r2 0) 9), .s (uS (out r2 0) 10), .i (uI (out r2 0) 11), .i (uI (out r2 0) 12), .s (uS (out r2 0) 13), .l (uL (out r2 0) 14)])
    .fail))
    .fail))
    .fail))
  | _ => .fail
set_option maxRecDepth 100000 in
theorem q_reads_Between (v0 : List (List PV)) (v1 : ByteArray) (v2 : Int) (v3 : Int) (v4 : ByteArray) (v5 : Int) (v6 : Int) (v7 : ByteArray) : callK br Try.prog X23 M_reads_Between L_reads_Between (lsT ll_reads_Between_23_3) 60 23 (encs [.l v0, .s v1, .i v2, .i v3, .s v4, .i v5, .i v6, .s v7] 0 S_reads_Between.ap) (encH [.l v0, .s v1, .i v2, .i v3, .s v4, .i v5, .i v6, .s v7] (ws S_reads_Between.ap) S_reads_Between.ah) (fun y => fixR Try.prog S_reads_Between.plan S_reads_Between.ah.length y) =
    (m_reads_Between [.l v0, .s v1, .i v2, .i v3, .s v4, .i v5, .i v6, .s v7]).go br (fun _ => none) S_reads_Between.fin := by
  rw [← callF_eq]; kernel_rfl
theorem e_reads_Between : EOK Try.prog 23 (gF S_reads_Between m_reads_Between) :=
  eokTold mixed named x23 (loopsOK_list rids lk_reads_Between_23_3) 60 S_reads_Between m_reads_Between (by
    intro us v h; unfold m_reads_Between at h; split at h
    · rename_i v0 v1 v2 v3 v4 v5 v6 v7; exact q_reads_Between v0 v1 v2 v3 v4 v5 v6 v7
    · cases h) false
noncomputable abbrev X24 : Ext := extT [(23, (gF S_reads_Between m_reads_Between))] X23
theorem x24 : XOK Try.prog X24 := xok1 x23 e_reads_Between

/-- slices.Equal[[]levee/api.Read,levee/api.Read] -/
def L_slices_Equal_ : FuncId → Nat → Option (List Nat) := liveT [(59, 4, [0, 1, 12, 13]), (59, 1000004, []), (59, 2000004, [4])]
def M_slices_Equal_ : FuncId → Bool := fun _ => false
noncomputable def rd_slices_Equal__59_4 : List U → Rt
  | [.l v0, .l v1, .i v2, .i v3] =>
    (.test (decide (v3 < v2))
    (.test (inR v3 (ln v0))
    (.test (inR v3 (ln v1))
    (.test (!(ByteArray.toList (cS (el v0 v3) 0) == ByteArray.toList (cS (el v1 v3) 0) && (cI (el v0 v3) 1 == cI (el v1 v3) 1 && (cI (el v0 v3) 2 == cI (el v1 v3) 2 && (ByteArray.toList (cS (el v0 v3) 3) == ByteArray.toList (cS (el v1 v3) 3) && true)) && (cI (el v0 v3) 4 == cI (el v1 v3) 4 && true))))
    (.stop 0 [.b false])
    (.next [.l v0, .l v1, .i v2, .i (w64 (v3 + (1 : Int)))]))
    .fail)
    .fail)
    (.stop 1 []))
  | _ => .fail
def sp_slices_Equal__59_4 : LSp := ⟨26, ⟨[(0, .one (.l 43)), (1, .one (.l 43)), (12, .one (.i .i64)), (13, .one (.i .i64))], []⟩, [(.ret, ⟨[(4, .one (.b))], []⟩), (.exit 0, ⟨[], []⟩)]⟩
set_option maxRecDepth 100000 in
theorem rq_slices_Equal__59_4 (v0 : List (List PV)) (v1 : List (List PV)) (v2 : Int) (v3 : Int) : runK br Try.prog (callK br Try.prog X24 M_slices_Equal_ L_slices_Equal_ (lsT []) 40) M_slices_Equal_ (lsT [] 59 0) 40 0 (L_slices_Equal_ 59) (bodyOf Try.prog 59 4) (sp_slices_Equal__59_4.s.ts sp_slices_Equal__59_4.n [.l v0, .l v1, .i v2, .i v3]) (sp_slices_Equal__59_4.s.h [.l v0, .l v1, .i v2, .i v3]) (idc Try.prog 0 (L_slices_Equal_ 59) 4) =
    (rd_slices_Equal__59_4 [.l v0, .l v1, .i v2, .i v3]).go br (fun us' => some (.normal, sp_slices_Equal__59_4.s.ts sp_slices_Equal__59_4.n us', sp_slices_Equal__59_4.s.h us')) sp_slices_Equal__59_4.fin := by
  rw [← callF_eq, ← runF_eq]; kernel_rfl
theorem lo_slices_Equal__59_4 {R : Type} : LoopTells Try.prog X24 M_slices_Equal_ L_slices_Equal_ 0 (L_slices_Equal_ 59) (bodyOf Try.prog 59 4) (gL (R := R) sp_slices_Equal__59_4 rd_slices_Equal__59_4 br) :=
  loopTold (callK_ev (loopsOK_list rids noneIn) 40) (lsokIn (loopsOK_list rids noneIn) 59 0 4) (by kernel_rfl) sp_slices_Equal__59_4 rd_slices_Equal__59_4 rfl (by kernel_rfl) (by
    intro us v h; unfold rd_slices_Equal__59_4 at h; split at h
    · rename_i v0 v1 v2 v3; exact rq_slices_Equal__59_4 v0 v1 v2 v3
    · cases h)
noncomputable abbrev ll_slices_Equal__59_4 {R : Type} : List (Nat × Nat × Nat × Smy R) := (59, 0, 4, gL sp_slices_Equal__59_4 rd_slices_Equal__59_4 br) :: []
theorem lk_slices_Equal__59_4 {R : Type} : ∀ e ∈ ll_slices_Equal__59_4 (R := R), LoopTells Try.prog X24 M_slices_Equal_ L_slices_Equal_ e.2.1 (L_slices_Equal_ e.1) (bodyOf Try.prog e.1 e.2.2.1) e.2.2.2 := List.forall_mem_cons.2 ⟨lo_slices_Equal__59_4, noneIn⟩
def S_slices_Equal_ : FSp := ⟨[.one (.l 43), .one (.l 43)], [], [], [([.one (.b)], [])]⟩
noncomputable def m_slices_Equal_ : List U → Rt
  | [.l v0, .l v1] =>
    (.test (ln v0 != ln v1)
    (.stop 0 [.b false])
    (let r0 : Rs := (lres rd_slices_Equal__59_4 [U.l v0, U.l v1, U.i (ln v0), U.i (0 : Int)])
    (.test (ok r0 0)
    (.stop 0 [.b (uB (out r0 0) 0)])
    (.test (ok r0 1)
    (.stop 0 [.b true])
    .fail))))
  | _ => .fail
set_option maxRecDepth 100000 in
theorem q_slices_Equal_ (v0 : List (List PV)) (v1 : List (List PV)) : callK br Try.prog X24 M_slices_Equal_ L_slices_Equal_ (lsT ll_slices_Equal__59_4) 60 59 (encs [.l v0, .l v1] 0 S_slices_Equal_.ap) (encH [.l v0, .l v1] (ws S_slices_Equal_.ap) S_slices_Equal_.ah) (fun y => fixR Try.prog S_slices_Equal_.plan S_slices_Equal_.ah.length y) =
    (m_slices_Equal_ [.l v0, .l v1]).go br (fun _ => none) S_slices_Equal_.fin := by
  rw [← callF_eq]; kernel_rfl
theorem e_slices_Equal_ : EOK Try.prog 59 (gF S_slices_Equal_ m_slices_Equal_) :=
  eokTold mixed named x24 (loopsOK_list rids lk_slices_Equal__59_4) 60 S_slices_Equal_ m_slices_Equal_ (by
    intro us v h; unfold m_slices_Equal_ at h; split at h
    · rename_i v0 v1; exact q_slices_Equal_ v0 v1
    · cases h) false
noncomputable abbrev X25 : Ext := extT [(59, (gF S_slices_Equal_ m_slices_Equal_))] X24
theorem x25 : XOK Try.prog X25 := xok1 x24 e_slices_Equal_

/-- levee/view.Look -/
def L_view_Look : FuncId → Nat → Option (List Nat) := liveT [(86, 2, [0, 1, 7, 8]), (86, 1000002, []), (86, 2000002, [4])]
def M_view_Look : FuncId → Bool := fun _ => false
noncomputable def rd_view_Look_86_2 : List U → Rt
  | [.l v0, .i v1, .i v2, .s v3] =>
    (.test (decide (v2 < v1))
    (.test (inR v2 (ln v0))
    (.test (ByteArray.toList (cS (el v0 v2) 0) == ByteArray.toList v3)
    (.stop 0 [.i v2, .s v3])
    (.next [.l v0, .i v1, .i (w64 (v2 + (1 : Int))), .s v3]))
    .fail)
    (.stop 1 [.s v3]))
  | _ => .fail
def sp_view_Look_86_2 : LSp := ⟨19, ⟨[(0, .one (.l 90)), (1, .fn 87 [.ptr 0 0]), (7, .one (.i .i64)), (8, .one (.i .i64))], [.box 9 [.one (.s)]]⟩, [(.ret, ⟨[(4, .one (.i .i64))], [.box 9 [.one (.s)]]⟩), (.exit 0, ⟨[], [.box 9 [.one (.s)]]⟩)]⟩
set_option maxRecDepth 100000 in
theorem rq_view_Look_86_2 (v0 : List (List PV)) (v1 : Int) (v2 : Int) (v3 : ByteArray) : runK br Try.prog (callK br Try.prog X25 M_view_Look L_view_Look (lsT []) 40) M_view_Look (lsT [] 86 1) 40 1 (L_view_Look 86) (bodyOf Try.prog 86 2) (sp_view_Look_86_2.s.ts sp_view_Look_86_2.n [.l v0, .i v1, .i v2, .s v3]) (sp_view_Look_86_2.s.h [.l v0, .i v1, .i v2, .s v3]) (idc Try.prog 1 (L_view_Look 86) 2) =
    (rd_view_Look_86_2 [.l v0, .i v1, .i v2, .s v3]).go br (fun us' => some (.normal, sp_view_Look_86_2.s.ts sp_view_Look_86_2.n us', sp_view_Look_86_2.s.h us')) sp_view_Look_86_2.fin := by
  rw [← callF_eq, ← runF_eq]; kernel_rfl
theorem lo_view_Look_86_2 {R : Type} : LoopTells Try.prog X25 M_view_Look L_view_Look 1 (L_view_Look 86) (bodyOf Try.prog 86 2) (gL (R := R) sp_view_Look_86_2 rd_view_Look_86_2 br) :=
  loopTold (callK_ev (loopsOK_list rids noneIn) 40) (lsokIn (loopsOK_list rids noneIn) 86 1 2) (by kernel_rfl) sp_view_Look_86_2 rd_view_Look_86_2 rfl (by kernel_rfl) (by
    intro us v h; unfold rd_view_Look_86_2 at h; split at h
    · rename_i v0 v1 v2 v3; exact rq_view_Look_86_2 v0 v1 v2 v3
    · cases h)
noncomputable abbrev ll_view_Look_86_2 {R : Type} : List (Nat × Nat × Nat × Smy R) := (86, 1, 2, gL sp_view_Look_86_2 rd_view_Look_86_2 br) :: []
theorem lk_view_Look_86_2 {R : Type} : ∀ e ∈ ll_view_Look_86_2 (R := R), LoopTells Try.prog X25 M_view_Look L_view_Look e.2.1 (L_view_Look e.1) (bodyOf Try.prog e.1 e.2.2.1) e.2.2.2 := List.forall_mem_cons.2 ⟨lo_view_Look_86_2, noneIn⟩
def S_view_Look : FSp := ⟨[.one (.l 90), .one (.s)], [], [168000000], [([.one (.l 83)], [])]⟩
noncomputable def m_view_Look : List U → Rt
  | [.l v0, .s v1] =>
    (let r0 : Rs := (lres rd_view_Look_86_2 [U.l v0, U.i (ln v0), U.i (0 : Int), U.s v1])
    (.test (ok r0 0)
    (.test (decide (uI (out r0 0) 0 < (0 : Int)))
    (.stop 0 [.l []])
    (.test (inR (uI (out r0 0) 0) (ln v0))
    (.stop 0 [.l (cL (el v0 (uI (out r0 0) 0)) 1)])
    .fail))
    (.test (ok r0 1)
    (.stop 0 [.l []])
    .fail)))
  | _ => .fail
set_option maxRecDepth 100000 in
theorem q_view_Look (v0 : List (List PV)) (v1 : ByteArray) : callK br Try.prog X25 M_view_Look L_view_Look (lsT ll_view_Look_86_2) 60 63 (encs [.l v0, .s v1] 0 S_view_Look.ap) (encH [.l v0, .s v1] (ws S_view_Look.ap) S_view_Look.ah) (fun y => fixR Try.prog S_view_Look.plan S_view_Look.ah.length y) =
    (m_view_Look [.l v0, .s v1]).go br (fun _ => none) S_view_Look.fin := by
  rw [← callF_eq]; kernel_rfl
theorem e_view_Look : EOK Try.prog 63 (gF S_view_Look m_view_Look) :=
  eokTold mixed named x25 (loopsOK_list rids lk_view_Look_86_2) 60 S_view_Look m_view_Look (by
    intro us v h; unfold m_view_Look at h; split at h
    · rename_i v0 v1; exact q_view_Look v0 v1
    · cases h) false
noncomputable abbrev X26 : Ext := extT [(63, (gF S_view_Look m_view_Look))] X25
theorem x26 : XOK Try.prog X26 := xok1 x25 e_view_Look

/-- levee/key.Compare -/
def L_key_Compare : FuncId → Nat → Option (List Nat) := liveT [(118, 2, [0, 1, 2, 11, 12, 13]), (118, 1000002, [0, 1]), (118, 2000002, [6])]
def M_key_Compare : FuncId → Bool := fun _ => false
noncomputable def rd_key_Compare_118_2 : List U → Rt
  | [.l v0, .l v1, .l v2, .i v3, .i v4] =>
    (.test (decide (v4 < v3))
    (.test (inR v4 (ln v2))
    (.test (decide (v4 ≥ ln v1))
    (.stop 0 [.i ((1 : Int))])
    (.test (inR v4 (ln v1))
    (let r0 : Rs := (Rt.res (m_value_Compare [U.i (cI (el v2 v4) 0), U.i (cI (el v2 v4) 1), U.s (cS (el v2 v4) 2), U.i (cI (el v1 v4) 0), U.i (cI (el v1 v4) 1), U.s (cS (el v1 v4) 2)]))
    (.test (ok r0 0)
    (.test (uI (out r0 0) 0 != (0 : Int))
    (.stop 0 [.i (uI (out r0 0) 0)])
    (.next [.l v0, .l v1, .l v2, .i v3, .i (w64 (v4 + (1 : Int)))]))
    .fail))
    .fail))
    .fail)
    (.stop 1 [.l v0, .l v1]))
  | _ => .fail
def sp_key_Compare_118_2 : LSp := ⟨39, ⟨[(0, .one (.l 24)), (1, .one (.l 24)), (2, .fn 71 []), (11, .one (.l 24)), (12, .one (.i .i64)), (13, .one (.i .i64))], []⟩, [(.ret, ⟨[(6, .one (.i .i64))], []⟩), (.exit 0, ⟨[(0, .one (.l 24)), (1, .one (.l 24))], []⟩)]⟩
set_option maxRecDepth 100000 in
theorem rq_key_Compare_118_2 (v0 : List (List PV)) (v1 : List (List PV)) (v2 : List (List PV)) (v3 : Int) (v4 : Int) : runK br Try.prog (callK br Try.prog X26 M_key_Compare L_key_Compare (lsT []) 40) M_key_Compare (lsT [] 118 0) 40 0 (L_key_Compare 118) (bodyOf Try.prog 118 2) (sp_key_Compare_118_2.s.ts sp_key_Compare_118_2.n [.l v0, .l v1, .l v2, .i v3, .i v4]) (sp_key_Compare_118_2.s.h [.l v0, .l v1, .l v2, .i v3, .i v4]) (idc Try.prog 0 (L_key_Compare 118) 2) =
    (rd_key_Compare_118_2 [.l v0, .l v1, .l v2, .i v3, .i v4]).go br (fun us' => some (.normal, sp_key_Compare_118_2.s.ts sp_key_Compare_118_2.n us', sp_key_Compare_118_2.s.h us')) sp_key_Compare_118_2.fin := by
  rw [← callF_eq, ← runF_eq]; kernel_rfl
theorem lo_key_Compare_118_2 {R : Type} : LoopTells Try.prog X26 M_key_Compare L_key_Compare 0 (L_key_Compare 118) (bodyOf Try.prog 118 2) (gL (R := R) sp_key_Compare_118_2 rd_key_Compare_118_2 br) :=
  loopTold (callK_ev (loopsOK_list rids noneIn) 40) (lsokIn (loopsOK_list rids noneIn) 118 0 2) (by kernel_rfl) sp_key_Compare_118_2 rd_key_Compare_118_2 rfl (by kernel_rfl) (by
    intro us v h; unfold rd_key_Compare_118_2 at h; split at h
    · rename_i v0 v1 v2 v3 v4; exact rq_key_Compare_118_2 v0 v1 v2 v3 v4
    · cases h)
noncomputable abbrev ll_key_Compare_118_2 {R : Type} : List (Nat × Nat × Nat × Smy R) := (118, 0, 2, gL sp_key_Compare_118_2 rd_key_Compare_118_2 br) :: []
theorem lk_key_Compare_118_2 {R : Type} : ∀ e ∈ ll_key_Compare_118_2 (R := R), LoopTells Try.prog X26 M_key_Compare L_key_Compare e.2.1 (L_key_Compare e.1) (bodyOf Try.prog e.1 e.2.2.1) e.2.2.2 := List.forall_mem_cons.2 ⟨lo_key_Compare_118_2, noneIn⟩
def S_key_Compare : FSp := ⟨[.one (.l 24), .one (.l 24)], [], [], [([.one (.i .i64)], [])]⟩
noncomputable def m_key_Compare : List U → Rt
  | [.l v0, .l v1] =>
    (let r0 : Rs := (lres rd_key_Compare_118_2 [U.l v0, U.l v1, U.l v0, U.i (ln v0), U.i (0 : Int)])
    (.test (ok r0 0)
    (.stop 0 [.i (uI (out r0 0) 0)])
    (.test (ok r0 1)
    (.test (decide (ln (uL (out r0 1) 0) < ln (uL (out r0 1) 1)))
    (.stop 0 [.i ((-1 : Int))])
    (.stop 0 [.i ((0 : Int))]))
    .fail)))
  | _ => .fail
set_option maxRecDepth 100000 in
theorem q_key_Compare (v0 : List (List PV)) (v1 : List (List PV)) : callK br Try.prog X26 M_key_Compare L_key_Compare (lsT ll_key_Compare_118_2) 60 104 (encs [.l v0, .l v1] 0 S_key_Compare.ap) (encH [.l v0, .l v1] (ws S_key_Compare.ap) S_key_Compare.ah) (fun y => fixR Try.prog S_key_Compare.plan S_key_Compare.ah.length y) =
    (m_key_Compare [.l v0, .l v1]).go br (fun _ => none) S_key_Compare.fin := by
  rw [← callF_eq]; kernel_rfl
theorem e_key_Compare : EOK Try.prog 104 (gF S_key_Compare m_key_Compare) :=
  eokTold mixed named x26 (loopsOK_list rids lk_key_Compare_118_2) 60 S_key_Compare m_key_Compare (by
    intro us v h; unfold m_key_Compare at h; split at h
    · rename_i v0 v1; exact q_key_Compare v0 v1
    · cases h) false
noncomputable abbrev X27 : Ext := extT [(104, (gF S_key_Compare m_key_Compare))] X26
theorem x27 : XOK Try.prog X27 := xok1 x26 e_key_Compare

/-- levee/row.Compare -/
def L_row_Compare : FuncId → Nat → Option (List Nat) := liveT []
def M_row_Compare : FuncId → Bool := fun _ => false
def S_row_Compare : FSp := ⟨[.one (.l 24), .one (.l 24)], [], [], [([.one (.i .i64)], [])]⟩
noncomputable def m_row_Compare : List U → Rt
  | [.l v0, .l v1] =>
    (let r0 : Rs := (Rt.res (m_key_Compare [U.l v0, U.l v1]))
    (.test (ok r0 0)
    (.stop 0 [.i (uI (out r0 0) 0)])
    .fail))
  | _ => .fail
set_option maxRecDepth 100000 in
theorem q_row_Compare (v0 : List (List PV)) (v1 : List (List PV)) : callK br Try.prog X27 M_row_Compare L_row_Compare (lsT []) 60 85 (encs [.l v0, .l v1] 0 S_row_Compare.ap) (encH [.l v0, .l v1] (ws S_row_Compare.ap) S_row_Compare.ah) (fun y => fixR Try.prog S_row_Compare.plan S_row_Compare.ah.length y) =
    (m_row_Compare [.l v0, .l v1]).go br (fun _ => none) S_row_Compare.fin := by
  rw [← callF_eq]; kernel_rfl
theorem e_row_Compare : EOK Try.prog 85 (gF S_row_Compare m_row_Compare) :=
  eokTold mixed named x27 (loopsOK_list rids noneIn) 60 S_row_Compare m_row_Compare (by
    intro us v h; unfold m_row_Compare at h; split at h
    · rename_i v0 v1; exact q_row_Compare v0 v1
    · cases h) false
noncomputable abbrev X28 : Ext := extT [(85, (gF S_row_Compare m_row_Compare))] X27
theorem x28 : XOK Try.prog X28 := xok1 x27 e_row_Compare

/-- levee/reads.same -/
def L_reads_same : FuncId → Nat → Option (List Nat) := liveT [(83, 4, [1, 2, 15, 16, 17]), (83, 1000004, []), (83, 2000004, [6])]
def M_reads_same : FuncId → Bool := fun _ => false
noncomputable def rd_reads_same_83_4 : List U → Rt
  | [.l v0, .l v1, .i v2, .i v3] =>
    (.test (decide (v3 < v2))
    (.test (inR v3 (ln v1))
    (.test (inR v3 (ln v0))
    (.test (cI (el v1 v3) 1 == cI (el v0 v3) 1)
    (let r0 : Rs := (Rt.res (m_row_Compare [U.l (cL (el v1 v3) 0), U.l (cL (el v0 v3) 0)]))
    (.test (ok r0 0)
    (.test (!uI (out r0 0) 0 == (0 : Int))
    (.stop 0 [.b false])
    (.next [.l v0, .l v1, .i v2, .i (w64 (v3 + (1 : Int)))]))
    .fail))
    (.stop 0 [.b false]))
    .fail)
    .fail)
    (.stop 1 []))
  | _ => .fail
def sp_reads_same_83_4 : LSp := ⟨32, ⟨[(1, .one (.l 83)), (2, .fn 84 []), (15, .one (.l 83)), (16, .one (.i .i64)), (17, .one (.i .i64))], []⟩, [(.ret, ⟨[(6, .one (.b))], []⟩), (.exit 0, ⟨[], []⟩)]⟩
set_option maxRecDepth 100000 in
theorem rq_reads_same_83_4 (v0 : List (List PV)) (v1 : List (List PV)) (v2 : Int) (v3 : Int) : runK br Try.prog (callK br Try.prog X28 M_reads_same L_reads_same (lsT []) 40) M_reads_same (lsT [] 83 0) 40 0 (L_reads_same 83) (bodyOf Try.prog 83 4) (sp_reads_same_83_4.s.ts sp_reads_same_83_4.n [.l v0, .l v1, .i v2, .i v3]) (sp_reads_same_83_4.s.h [.l v0, .l v1, .i v2, .i v3]) (idc Try.prog 0 (L_reads_same 83) 4) =
    (rd_reads_same_83_4 [.l v0, .l v1, .i v2, .i v3]).go br (fun us' => some (.normal, sp_reads_same_83_4.s.ts sp_reads_same_83_4.n us', sp_reads_same_83_4.s.h us')) sp_reads_same_83_4.fin := by
  rw [← callF_eq, ← runF_eq]; kernel_rfl
theorem lo_reads_same_83_4 {R : Type} : LoopTells Try.prog X28 M_reads_same L_reads_same 0 (L_reads_same 83) (bodyOf Try.prog 83 4) (gL (R := R) sp_reads_same_83_4 rd_reads_same_83_4 br) :=
  loopTold (callK_ev (loopsOK_list rids noneIn) 40) (lsokIn (loopsOK_list rids noneIn) 83 0 4) (by kernel_rfl) sp_reads_same_83_4 rd_reads_same_83_4 rfl (by kernel_rfl) (by
    intro us v h; unfold rd_reads_same_83_4 at h; split at h
    · rename_i v0 v1 v2 v3; exact rq_reads_same_83_4 v0 v1 v2 v3
    · cases h)
noncomputable abbrev ll_reads_same_83_4 {R : Type} : List (Nat × Nat × Nat × Smy R) := (83, 0, 4, gL sp_reads_same_83_4 rd_reads_same_83_4 br) :: []
theorem lk_reads_same_83_4 {R : Type} : ∀ e ∈ ll_reads_same_83_4 (R := R), LoopTells Try.prog X28 M_reads_same L_reads_same e.2.1 (L_reads_same e.1) (bodyOf Try.prog e.1 e.2.2.1) e.2.2.2 := List.forall_mem_cons.2 ⟨lo_reads_same_83_4, noneIn⟩
def S_reads_same : FSp := ⟨[.one (.l 83), .one (.l 83)], [], [], [([.one (.b)], [])]⟩
noncomputable def m_reads_same : List U → Rt
  | [.l v0, .l v1] =>
    (.test (ln v0 != ln v1)
    (.stop 0 [.b false])
    (let r0 : Rs := (lres rd_reads_same_83_4 [U.l v1, U.l v0, U.i (ln v0), U.i (0 : Int)])
    (.test (ok r0 0)
    (.stop 0 [.b (uB (out r0 0) 0)])
    (.test (ok r0 1)
    (.stop 0 [.b true])
    .fail))))
  | _ => .fail
set_option maxRecDepth 100000 in
theorem q_reads_same (v0 : List (List PV)) (v1 : List (List PV)) : callK br Try.prog X28 M_reads_same L_reads_same (lsT ll_reads_same_83_4) 60 62 (encs [.l v0, .l v1] 0 S_reads_same.ap) (encH [.l v0, .l v1] (ws S_reads_same.ap) S_reads_same.ah) (fun y => fixR Try.prog S_reads_same.plan S_reads_same.ah.length y) =
    (m_reads_same [.l v0, .l v1]).go br (fun _ => none) S_reads_same.fin := by
  rw [← callF_eq]; kernel_rfl
theorem e_reads_same : EOK Try.prog 62 (gF S_reads_same m_reads_same) :=
  eokTold mixed named x28 (loopsOK_list rids lk_reads_same_83_4) 60 S_reads_same m_reads_same (by
    intro us v h; unfold m_reads_same at h; split at h
    · rename_i v0 v1; exact q_reads_same v0 v1
    · cases h) false
noncomputable abbrev X29 : Ext := extT [(62, (gF S_reads_same m_reads_same))] X28
theorem x29 : XOK Try.prog X29 := xok1 x28 e_reads_same

/-- levee/reads.Valid -/
def L_reads_Valid : FuncId → Nat → Option (List Nat) := liveT [(101, 2, [0, 1, 7, 8]), (101, 1000002, []), (101, 2000002, [4]), (102, 2, [0, 1, 7, 8]), (102, 1000002, []), (102, 2000002, [4]), (103, 2, [0, 1, 7, 8]), (103, 1000002, []), (103, 2000002, [4])]
def M_reads_Valid : FuncId → Bool := fun _ => false
noncomputable def rd_reads_Valid_101_2 : List U → Rt
  | [.l v0, .i v1, .i v2, .l v3] =>
    (.test (decide (v2 < v1))
    (.test (inR v2 (ln v0))
    (let r0 : Rs := (Rt.res (m_reads_One [U.l v3, U.s (cS (el v0 v2) 0), U.i (cI (el v0 v2) 1), U.i (cI (el v0 v2) 2), U.s (cS (el v0 v2) 3)]))
    (.test (ok r0 0)
    (.test (!(ByteArray.toList (uS (out r0 0) 0) == ByteArray.toList (cS (el v0 v2) 0) && (uI (out r0 0) 1 == cI (el v0 v2) 1 && (uI (out r0 0) 2 == cI (el v0 v2) 2 && (ByteArray.toList (uS (out r0 0) 3) == ByteArray.toList (cS (el v0 v2) 3) && true)) && (uI (out r0 0) 4 == cI (el v0 v2) 4 && true))))
    (.stop 0 [.i v2, .l v3])
    (.next [.l v0, .i v1, .i (w64 (v2 + (1 : Int))), .l v3]))
    .fail))
    .fail)
    (.stop 1 [.l v3]))
  | _ => .fail
def sp_reads_Valid_101_2 : LSp := ⟨19, ⟨[(0, .one (.l 43)), (1, .fn 78 [.ptr 0 0]), (7, .one (.i .i64)), (8, .one (.i .i64))], [.box 94 [.fn 56 [.ptr 1 0]], .box 22 [.one (.l 40)]]⟩, [(.ret, ⟨[(4, .one (.i .i64))], [.box 94 [.fn 56 [.ptr 1 0]], .box 22 [.one (.l 40)]]⟩), (.exit 0, ⟨[], [.box 94 [.fn 56 [.ptr 1 0]], .box 22 [.one (.l 40)]]⟩)]⟩
set_option maxRecDepth 100000 in
theorem rq_reads_Valid_101_2 (v0 : List (List PV)) (v1 : Int) (v2 : Int) (v3 : List (List PV)) : runK br Try.prog (callK br Try.prog X29 M_reads_Valid L_reads_Valid (lsT []) 40) M_reads_Valid (lsT [] 101 2) 40 2 (L_reads_Valid 101) (bodyOf Try.prog 101 2) (sp_reads_Valid_101_2.s.ts sp_reads_Valid_101_2.n [.l v0, .i v1, .i v2, .l v3]) (sp_reads_Valid_101_2.s.h [.l v0, .i v1, .i v2, .l v3]) (idc Try.prog 2 (L_reads_Valid 101) 2) =
    (rd_reads_Valid_101_2 [.l v0, .i v1, .i v2, .l v3]).go br (fun us' => some (.normal, sp_reads_Valid_101_2.s.ts sp_reads_Valid_101_2.n us', sp_reads_Valid_101_2.s.h us')) sp_reads_Valid_101_2.fin := by
  rw [← callF_eq, ← runF_eq]; kernel_rfl
theorem lo_reads_Valid_101_2 {R : Type} : LoopTells Try.prog X29 M_reads_Valid L_reads_Valid 2 (L_reads_Valid 101) (bodyOf Try.prog 101 2) (gL (R := R) sp_reads_Valid_101_2 rd_reads_Valid_101_2 br) :=
  loopTold (callK_ev (loopsOK_list rids noneIn) 40) (lsokIn (loopsOK_list rids noneIn) 101 2 2) (by kernel_rfl) sp_reads_Valid_101_2 rd_reads_Valid_101_2 rfl (by kernel_rfl) (by
    intro us v h; unfold rd_reads_Valid_101_2 at h; split at h
    · rename_i v0 v1 v2 v3; exact rq_reads_Valid_101_2 v0 v1 v2 v3
    · cases h)
noncomputable abbrev ll_reads_Valid_101_2 {R : Type} : List (Nat × Nat × Nat × Smy R) := (101, 2, 2, gL sp_reads_Valid_101_2 rd_reads_Valid_101_2 br) :: []
theorem lk_reads_Valid_101_2 {R : Type} : ∀ e ∈ ll_reads_Valid_101_2 (R := R), LoopTells Try.prog X29 M_reads_Valid L_reads_Valid e.2.1 (L_reads_Valid e.1) (bodyOf Try.prog e.1 e.2.2.1) e.2.2.2 := List.forall_mem_cons.2 ⟨lo_reads_Valid_101_2, noneIn⟩
noncomputable def rd_reads_Valid_102_2 : List U → Rt
  | [.l v0, .i v1, .i v2, .l v3] =>
    (.test (decide (v2 < v1))
    (.test (inR v2 (ln v0))
    (let r0 : Rs := (Rt.res (m_reads_Between [U.l v3, U.s (cS (el v0 v2) 0), U.i (cI (el v0 v2) 1), U.i (cI (el v0 v2) 2), U.s (cS (el v0 v2) 3), U.i (cI (el v0 v2) 4), U.i (cI (el v0 v2) 5), U.s (cS (el v0 v2) 6)]))
    (.test (ok r0 0)
    (let r1 : Rs := (Rt.res (m_slices_Equal_ [U.l (uL (out r0 0) 7), U.l (cL (el v0 v2) 7)]))
    (.test (ok r1 0)
    (.test (!uB (out r1 0) 0)
    (.stop 0 [.i v2, .l v3])
    (.next [.l v0, .i v1, .i (w64 (v2 + (1 : Int))), .l v3]))
    .fail))
    .fail))
    .fail)
    (.stop 1 [.l v3]))
  | _ => .fail
def sp_reads_Valid_102_2 : LSp := ⟨19, ⟨[(0, .one (.l 47)), (1, .fn 80 [.ptr 0 0]), (7, .one (.i .i64)), (8, .one (.i .i64))], [.box 96 [.fn 58 [.ptr 1 0]], .box 22 [.one (.l 40)]]⟩, [(.ret, ⟨[(4, .one (.i .i64))], [.box 96 [.fn 58 [.ptr 1 0]], .box 22 [.one (.l 40)]]⟩), (.exit 0, ⟨[], [.box 96 [.fn 58 [.ptr 1 0]], .box 22 [.one (.l 40)]]⟩)]⟩
set_option maxRecDepth 100000 in
theorem rq_reads_Valid_102_2 (v0 : List (List PV)) (v1 : Int) (v2 : Int) (v3 : List (List PV)) : runK br Try.prog (callK br Try.prog X29 M_reads_Valid L_reads_Valid (lsT ll_reads_Valid_101_2) 40) M_reads_Valid (lsT ll_reads_Valid_101_2 102 2) 40 2 (L_reads_Valid 102) (bodyOf Try.prog 102 2) (sp_reads_Valid_102_2.s.ts sp_reads_Valid_102_2.n [.l v0, .i v1, .i v2, .l v3]) (sp_reads_Valid_102_2.s.h [.l v0, .i v1, .i v2, .l v3]) (idc Try.prog 2 (L_reads_Valid 102) 2) =
    (rd_reads_Valid_102_2 [.l v0, .i v1, .i v2, .l v3]).go br (fun us' => some (.normal, sp_reads_Valid_102_2.s.ts sp_reads_Valid_102_2.n us', sp_reads_Valid_102_2.s.h us')) sp_reads_Valid_102_2.fin := by
  rw [← callF_eq, ← runF_eq]; kernel_rfl
theorem lo_reads_Valid_102_2 {R : Type} : LoopTells Try.prog X29 M_reads_Valid L_reads_Valid 2 (L_reads_Valid 102) (bodyOf Try.prog 102 2) (gL (R := R) sp_reads_Valid_102_2 rd_reads_Valid_102_2 br) :=
  loopTold (callK_ev (loopsOK_list rids lk_reads_Valid_101_2) 40) (lsokIn (loopsOK_list rids lk_reads_Valid_101_2) 102 2 2) (by kernel_rfl) sp_reads_Valid_102_2 rd_reads_Valid_102_2 rfl (by kernel_rfl) (by
    intro us v h; unfold rd_reads_Valid_102_2 at h; split at h
    · rename_i v0 v1 v2 v3; exact rq_reads_Valid_102_2 v0 v1 v2 v3
    · cases h)
noncomputable abbrev ll_reads_Valid_102_2 {R : Type} : List (Nat × Nat × Nat × Smy R) := (102, 2, 2, gL sp_reads_Valid_102_2 rd_reads_Valid_102_2 br) :: ll_reads_Valid_101_2
theorem lk_reads_Valid_102_2 {R : Type} : ∀ e ∈ ll_reads_Valid_102_2 (R := R), LoopTells Try.prog X29 M_reads_Valid L_reads_Valid e.2.1 (L_reads_Valid e.1) (bodyOf Try.prog e.1 e.2.2.1) e.2.2.2 := List.forall_mem_cons.2 ⟨lo_reads_Valid_102_2, lk_reads_Valid_101_2⟩
noncomputable def rd_reads_Valid_103_2 : List U → Rt
  | [.l v0, .i v1, .i v2, .l v3] =>
    (.test (decide (v2 < v1))
    (.test (inR v2 (ln v0))
    (let r0 : Rs := (Rt.res (m_view_Look [U.l v3, U.s (cS (el v0 v2) 0)]))
    (.test (ok r0 0)
    (let r1 : Rs := (Rt.res (m_reads_same [U.l (uL (out r0 0) 0), U.l (cL (el v0 v2) 1)]))
    (.test (ok r1 0)
    (.test (!uB (out r1 0) 0)
    (.stop 0 [.i v2, .l v3])
    (.next [.l v0, .i v1, .i (w64 (v2 + (1 : Int))), .l v3]))
    .fail))
    .fail))
    .fail)
    (.stop 1 [.l v3]))
  | _ => .fail
def sp_reads_Valid_103_2 : LSp := ⟨19, ⟨[(0, .one (.l 55)), (1, .fn 82 [.ptr 0 0]), (7, .one (.i .i64)), (8, .one (.i .i64))], [.box 98 [.fn 61 [.ptr 1 0]], .box 30 [.one (.l 90)]]⟩, [(.ret, ⟨[(4, .one (.i .i64))], [.box 98 [.fn 61 [.ptr 1 0]], .box 30 [.one (.l 90)]]⟩), (.exit 0, ⟨[], [.box 98 [.fn 61 [.ptr 1 0]], .box 30 [.one (.l 90)]]⟩)]⟩
set_option maxRecDepth 100000 in
theorem rq_reads_Valid_103_2 (v0 : List (List PV)) (v1 : Int) (v2 : Int) (v3 : List (List PV)) : runK br Try.prog (callK br Try.prog X29 M_reads_Valid L_reads_Valid (lsT ll_reads_Valid_102_2) 40) M_reads_Valid (lsT ll_reads_Valid_102_2 103 2) 40 2 (L_reads_Valid 103) (bodyOf Try.prog 103 2) (sp_reads_Valid_103_2.s.ts sp_reads_Valid_103_2.n [.l v0, .i v1, .i v2, .l v3]) (sp_reads_Valid_103_2.s.h [.l v0, .i v1, .i v2, .l v3]) (idc Try.prog 2 (L_reads_Valid 103) 2) =
    (rd_reads_Valid_103_2 [.l v0, .i v1, .i v2, .l v3]).go br (fun us' => some (.normal, sp_reads_Valid_103_2.s.ts sp_reads_Valid_103_2.n us', sp_reads_Valid_103_2.s.h us')) sp_reads_Valid_103_2.fin := by
  rw [← callF_eq, ← runF_eq]; kernel_rfl
theorem lo_reads_Valid_103_2 {R : Type} : LoopTells Try.prog X29 M_reads_Valid L_reads_Valid 2 (L_reads_Valid 103) (bodyOf Try.prog 103 2) (gL (R := R) sp_reads_Valid_103_2 rd_reads_Valid_103_2 br) :=
  loopTold (callK_ev (loopsOK_list rids lk_reads_Valid_102_2) 40) (lsokIn (loopsOK_list rids lk_reads_Valid_102_2) 103 2 2) (by kernel_rfl) sp_reads_Valid_103_2 rd_reads_Valid_103_2 rfl (by kernel_rfl) (by
    intro us v h; unfold rd_reads_Valid_103_2 at h; split at h
    · rename_i v0 v1 v2 v3; exact rq_reads_Valid_103_2 v0 v1 v2 v3
    · cases h)
noncomputable abbrev ll_reads_Valid_103_2 {R : Type} : List (Nat × Nat × Nat × Smy R) := (103, 2, 2, gL sp_reads_Valid_103_2 rd_reads_Valid_103_2 br) :: ll_reads_Valid_102_2
theorem lk_reads_Valid_103_2 {R : Type} : ∀ e ∈ ll_reads_Valid_103_2 (R := R), LoopTells Try.prog X29 M_reads_Valid L_reads_Valid e.2.1 (L_reads_Valid e.1) (bodyOf Try.prog e.1 e.2.2.1) e.2.2.2 := List.forall_mem_cons.2 ⟨lo_reads_Valid_103_2, lk_reads_Valid_102_2⟩
def S_reads_Valid : FSp := ⟨[.one (.l 40), .one (.l 90), .agg [.l 43, .l 47, .l 55]], [], [], [([.one (.b)], [])]⟩
noncomputable def m_reads_Valid : List U → Rt
  | [.l v0, .l v1, .l v2, .l v3, .l v4] =>
    (let r0 : Rs := (lres rd_reads_Valid_101_2 [U.l v2, U.i (ln v2), U.i (0 : Int), U.l v0])
    (.test (ok r0 0)
    (.test (!decide (uI (out r0 0) 0 ≥ (0 : Int)))
    (let r1 : Rs := (lres rd_reads_Valid_102_2 [U.l v3, U.i (ln v3), U.i (0 : Int), U.l (uL (out r0 0) 1)])
    (.test (ok r1 0)
    (.test (!decide (uI (out r1 0) 0 ≥ (0 : Int)))
    (let r2 : Rs := (lres rd_reads_Valid_103_2 [U.l v4, U.i (ln v4), U.i (0 : Int), U.l v1])
    (.test (ok r2 0)
    (.stop 0 [.b (!decide (uI (out r2 0) 0 ≥ (0 : Int)))])
    (.test (ok r2 1)
    (.stop 0 [.b true])
    .fail)))
    (.stop 0 [.b false]))
    (.test (ok r1 1)
    (let r3 : Rs := (lres rd_reads_Valid_103_2 [U.l v4, U.i (ln v4), U.i (0 : Int), U.l v1])
    (.test (ok r3 0)
    (.stop 0 [.b (!decide (uI (out r3 0) 0 ≥ (0 : Int)))])
    (.test (ok r3 1)
    (.stop 0 [.b true])
    .fail)))
    .fail)))
    (.stop 0 [.b false]))
    (.test (ok r0 1)
    (let r4 : Rs := (lres rd_reads_Valid_102_2 [U.l v3, U.i (ln v3), U.i (0 : Int), U.l (uL (out r0 1) 0)])
    (.test (ok r4 0)
    (.test (!decide (uI (out r4 0) 0 ≥ (0 : Int)))
    (let r5 : Rs := (lres rd_reads_Valid_103_2 [U.l v4, U.i (ln v4), U.i (0 : Int), U.l v1])
    (.test (ok r5 0)
    (.stop 0 [.b (!decide (uI (out r5 0) 0 ≥ (0 : Int)))])
    (.test (ok r5 1)
    (.stop 0 [.b true])
    .fail)))
    (.stop 0 [.b false]))
    (.test (ok r4 1)
    (let r6 : Rs := (lres rd_reads_Valid_103_2 [U.l v4, U.i (ln v4), U.i (0 : Int), U.l v1])
    (.test (ok r6 0)
    (.stop 0 [.b (!decide (uI (out r6 0) 0 ≥ (0 : Int)))])
    (.test (ok r6 1)
    (.stop 0 [.b true])
    .fail)))
    .fail)))
    .fail)))
  | _ => .fail
set_option maxRecDepth 100000 in
theorem q_reads_Valid (v0 : List (List PV)) (v1 : List (List PV)) (v2 : List (List PV)) (v3 : List (List PV)) (v4 : List (List PV)) : callK br Try.prog X29 M_reads_Valid L_reads_Valid (lsT ll_reads_Valid_103_2) 60 25 (encs [.l v0, .l v1, .l v2, .l v3, .l v4] 0 S_reads_Valid.ap) (encH [.l v0, .l v1, .l v2, .l v3, .l v4] (ws S_reads_Valid.ap) S_reads_Valid.ah) (fun y => fixR Try.prog S_reads_Valid.plan S_reads_Valid.ah.length y) =
    (m_reads_Valid [.l v0, .l v1, .l v2, .l v3, .l v4]).go br (fun _ => none) S_reads_Valid.fin := by
  rw [← callF_eq]; kernel_rfl
theorem e_reads_Valid : EOK Try.prog 25 (gF S_reads_Valid m_reads_Valid) :=
  eokTold mixed named x29 (loopsOK_list rids lk_reads_Valid_103_2) 60 S_reads_Valid m_reads_Valid (by
    intro us v h; unfold m_reads_Valid at h; split at h
    · rename_i v0 v1 v2 v3 v4; exact q_reads_Valid v0 v1 v2 v3 v4
    · cases h) false
noncomputable abbrev X30 : Ext := extT [(25, (gF S_reads_Valid m_reads_Valid))] X29
theorem x30 : XOK Try.prog X30 := xok1 x29 e_reads_Valid

/-- levee/reads.Find -/
def L_reads_Find : FuncId → Nat → Option (List Nat) := liveT [(18, 4, [4, 6, 16, 17, 18] ++ [2000119000006]), (18, 1000004, [4, 6]), (18, 2000004, [4])]
def M_reads_Find : FuncId → Bool := fun _ => false
noncomputable def rd_reads_Find_18_4 : List U → Rt
  | [.l v0, .i v1, .i v2, .s v3, .s v4, .l v5] =>
    (.test (decide (v2 < v1))
    (.test (inR v2 (ln v0))
    (.test (decide ((0 + List.length (cL (el v0 v2) 0)) * 32 ≤ 140737488355328))
    (.test (decide ((List.length v5 + 1) * 32 ≤ 140737488355328))
    (.next [.l v0, .i v1, .i (w64 (v2 + (1 : Int))), .s v3, .s v4, .l (v5 ++ [[PV.lst 24 (cL (el v0 v2) 0), pI (cI (el v0 v2) 1)]])])
    .fail)
    .fail)
    .fail)
    (.stop 0 [.s v3, .s v4, .l v5]))
  | _ => .fail
def sp_reads_Find_18_4 : LSp := ⟨35, ⟨[(4, .one (.ptr 0 0)), (6, .one (.ptr 1 0)), (16, .one (.l 59)), (17, .one (.i .i64)), (18, .one (.i .i64))], [.box 40 [.one (.s), .one (.nils)], .box 40 [.one (.s), .one (.all 2)], .arr 59 true]⟩, [(.exit 0, ⟨[(4, .one (.ptr 0 0)), (6, .one (.ptr 1 0))], [.box 40 [.one (.s), .one (.nils)], .box 40 [.one (.s), .one (.all 2)], .arr 59 true]⟩)]⟩
set_option maxRecDepth 100000 in
theorem rq_reads_Find_18_4 (v0 : List (List PV)) (v1 : Int) (v2 : Int) (v3 : ByteArray) (v4 : ByteArray) (v5 : List (List PV)) : runK br Try.prog (callK br Try.prog X30 M_reads_Find L_reads_Find (lsT []) 40) M_reads_Find (lsT [] 18 0) 40 0 (L_reads_Find 18) (bodyOf Try.prog 18 4) (sp_reads_Find_18_4.s.ts sp_reads_Find_18_4.n [.l v0, .i v1, .i v2, .s v3, .s v4, .l v5]) (sp_reads_Find_18_4.s.h [.l v0, .i v1, .i v2, .s v3, .s v4, .l v5]) (idc Try.prog 0 (L_reads_Find 18) 4) =
    (rd_reads_Find_18_4 [.l v0, .i v1, .i v2, .s v3, .s v4, .l v5]).go br (fun us' => some (.normal, sp_reads_Find_18_4.s.ts sp_reads_Find_18_4.n us', sp_reads_Find_18_4.s.h us')) sp_reads_Find_18_4.fin := by
  rw [← callF_eq, ← runF_eq]; kernel_rfl
theorem lo_reads_Find_18_4 {R : Type} : LoopTells Try.prog X30 M_reads_Find L_reads_Find 0 (L_reads_Find 18) (bodyOf Try.prog 18 4) (gL (R := R) sp_reads_Find_18_4 rd_reads_Find_18_4 br) :=
  loopTold (callK_ev (loopsOK_list rids noneIn) 40) (lsokIn (loopsOK_list rids noneIn) 18 0 4) (by kernel_rfl) sp_reads_Find_18_4 rd_reads_Find_18_4 rfl (by kernel_rfl) (by
    intro us v h; unfold rd_reads_Find_18_4 at h; split at h
    · rename_i v0 v1 v2 v3 v4 v5; exact rq_reads_Find_18_4 v0 v1 v2 v3 v4 v5
    · cases h)
noncomputable abbrev ll_reads_Find_18_4 {R : Type} : List (Nat × Nat × Nat × Smy R) := (18, 0, 4, gL sp_reads_Find_18_4 rd_reads_Find_18_4 br) :: []
theorem lk_reads_Find_18_4 {R : Type} : ∀ e ∈ ll_reads_Find_18_4 (R := R), LoopTells Try.prog X30 M_reads_Find L_reads_Find e.2.1 (L_reads_Find e.1) (bodyOf Try.prog e.1 e.2.2.1) e.2.2.2 := List.forall_mem_cons.2 ⟨lo_reads_Find_18_4, noneIn⟩
def S_reads_Find : FSp := ⟨[.one (.l 40), .one (.s)], [], [], [([.agg [.s, .all 0]], [.arr 59 true])]⟩
noncomputable def m_reads_Find : List U → Rt
  | [.l v0, .s v1] =>
    (let r0 : Rs := (Rt.res (m_reads_Look [U.l v0, U.s v1]))
    (.test (ok r0 0)
    (let r1 : Rs := (lres rd_reads_Find_18_4 [U.l (uL (out r0 0) 1), U.i (ln (uL (out r0 0) 1)), U.i (0 : Int), U.s { data := #[] }, U.s (uS (out r0 0) 0), U.l []])
    (.test (ok r1 0)
    (.stop 0 [.s (uS (out r1 0) 1), .l (uL (out r1 0) 2)])
    .fail))
    .fail))
  | _ => .fail
set_option maxRecDepth 100000 in
theorem q_reads_Find (v0 : List (List PV)) (v1 : ByteArray) : callK br Try.prog X30 M_reads_Find L_reads_Find (lsT ll_reads_Find_18_4) 60 18 (encs [.l v0, .s v1] 0 S_reads_Find.ap) (encH [.l v0, .s v1] (ws S_reads_Find.ap) S_reads_Find.ah) (fun y => fixR Try.prog S_reads_Find.plan S_reads_Find.ah.length y) =
    (m_reads_Find [.l v0, .s v1]).go br (fun _ => none) S_reads_Find.fin := by
  rw [← callF_eq]; kernel_rfl
theorem e_reads_Find : EOK Try.prog 18 (gF S_reads_Find m_reads_Find) :=
  eokTold mixed named x30 (loopsOK_list rids lk_reads_Find_18_4) 60 S_reads_Find m_reads_Find (by
    intro us v h; unfold m_reads_Find at h; split at h
    · rename_i v0 v1; exact q_reads_Find v0 v1
    · cases h) false
noncomputable abbrev X31 : Ext := extT [(18, (gF S_reads_Find m_reads_Find))] X30
theorem x31 : XOK Try.prog X31 := xok1 x30 e_reads_Find

/-- levee/leveelaw20.fixed -/
def L_L20_fixed : FuncId → Nat → Option (List Nat) := liveT []
def M_L20_fixed : FuncId → Bool := fun f => f == 68 || f == 72
def S_L20_fixed : FSp := ⟨[], [], [], [([.one (.b)], [])]⟩
noncomputable def m_L20_fixed : List U → Rt
  | [] =>
    (.stop 0 [.b true])
  | _ => .fail
set_option maxRecDepth 100000 in
theorem q_L20_fixed : callK br Try.prog XB M_L20_fixed L_L20_fixed (lsT []) 60 16 (encs [] 0 S_L20_fixed.ap) (encH [] (ws S_L20_fixed.ap) S_L20_fixed.ah) (fun y => fixR Try.prog S_L20_fixed.plan S_L20_fixed.ah.length y) =
    (m_L20_fixed []).go br (fun _ => none) S_L20_fixed.fin := by
  rw [← callF_eq]; kernel_rfl
theorem e_L20_fixed : EOK Try.prog 16 (gI S_L20_fixed m_L20_fixed) :=
  eokTold mixed named xB (loopsOK_list rids noneIn) 60 S_L20_fixed m_L20_fixed (by
    intro us v h; unfold m_L20_fixed at h; split at h
    · exact q_L20_fixed
    · cases h) true
noncomputable abbrev X32 : Ext := extT [(16, (gI S_L20_fixed m_L20_fixed))] X31
theorem x32 : XOK Try.prog X32 := xok1 x31 e_L20_fixed

/-- levee/leveeref20.Find -/
def L_R20_Find : FuncId → Nat → Option (List Nat) := liveT [(19, 2, [0, 1, 4, 5]), (19, 1000002, [4]), (19, 2000002, [4])]
def M_R20_Find : FuncId → Bool := fun _ => false
noncomputable def rd_R20_Find_19_2 : List U → Rt
  | [.l v0, .s v1, .i v2, .s v3] =>
    (.test (decide (v2 < ln v0))
    (.test (inR v2 (ln v0))
    (.test (ByteArray.toList (cS (el v0 v2) 0) == ByteArray.toList v1)
    (.test (inR v2 (ln v0))
    (.stop 0 [.s (cS (el v0 v2) 0), .l (cL (el v0 v2) 1)])
    .fail)
    (.next [.l v0, .s v1, .i (w64 (v2 + (1 : Int))), .s v3]))
    .fail)
    (.stop 1 [.s v3]))
  | _ => .fail
def sp_R20_Find_19_2 : LSp := ⟨24, ⟨[(0, .one (.l 40)), (1, .one (.s)), (4, .one (.ptr 0 0)), (5, .one (.i .i64))], [.box 40 [.one (.s), .one (.nils)]]⟩, [(.ret, ⟨[(4, .one (.ptr 0 0))], [.box 40 [.one (.s), .one (.l 59)]]⟩), (.exit 0, ⟨[(4, .one (.ptr 0 0))], [.box 40 [.one (.s), .one (.nils)]]⟩)]⟩
set_option maxRecDepth 100000 in
theorem rq_R20_Find_19_2 (v0 : List (List PV)) (v1 : ByteArray) (v2 : Int) (v3 : ByteArray) : runK br Try.prog (callK br Try.prog X32 M_R20_Find L_R20_Find (lsT []) 40) M_R20_Find (lsT [] 19 0) 40 0 (L_R20_Find 19) (bodyOf Try.prog 19 2) (sp_R20_Find_19_2.s.ts sp_R20_Find_19_2.n [.l v0, .s v1, .i v2, .s v3]) (sp_R20_Find_19_2.s.h [.l v0, .s v1, .i v2, .s v3]) (idc Try.prog 0 (L_R20_Find 19) 2) =
    (rd_R20_Find_19_2 [.l v0, .s v1, .i v2, .s v3]).go br (fun us' => some (.normal, sp_R20_Find_19_2.s.ts sp_R20_Find_19_2.n us', sp_R20_Find_19_2.s.h us')) sp_R20_Find_19_2.fin := by
  rw [← callF_eq, ← runF_eq]; kernel_rfl
theorem lo_R20_Find_19_2 {R : Type} : LoopTells Try.prog X32 M_R20_Find L_R20_Find 0 (L_R20_Find 19) (bodyOf Try.prog 19 2) (gL (R := R) sp_R20_Find_19_2 rd_R20_Find_19_2 br) :=
  loopTold (callK_ev (loopsOK_list rids noneIn) 40) (lsokIn (loopsOK_list rids noneIn) 19 0 2) (by kernel_rfl) sp_R20_Find_19_2 rd_R20_Find_19_2 rfl (by kernel_rfl) (by
    intro us v h; unfold rd_R20_Find_19_2 at h; split at h
    · rename_i v0 v1 v2 v3; exact rq_R20_Find_19_2 v0 v1 v2 v3
    · cases h)
noncomputable abbrev ll_R20_Find_19_2 {R : Type} : List (Nat × Nat × Nat × Smy R) := (19, 0, 2, gL sp_R20_Find_19_2 rd_R20_Find_19_2 br) :: []
theorem lk_R20_Find_19_2 {R : Type} : ∀ e ∈ ll_R20_Find_19_2 (R := R), LoopTells Try.prog X32 M_R20_Find L_R20_Find e.2.1 (L_R20_Find e.1) (bodyOf Try.prog e.1 e.2.2.1) e.2.2.2 := List.forall_mem_cons.2 ⟨lo_R20_Find_19_2, noneIn⟩
def S_R20_Find : FSp := ⟨[.one (.l 40), .one (.s)], [], [2000120000000], [([.agg [.s, .l 59]], [])]⟩
noncomputable def m_R20_Find : List U → Rt
  | [.l v0, .s v1] =>
    (let r0 : Rs := (lres rd_R20_Find_19_2 [U.l v0, U.s v1, U.i (0 : Int), U.s { data := #[] }])
    (.test (ok r0 0)
    (.stop 0 [.s (uS (out r0 0) 0), .l (uL (out r0 0) 1)])
    (.test (ok r0 1)
    (.stop 0 [.s ({ data := #[] }), .l []])
    .fail)))
  | _ => .fail
set_option maxRecDepth 100000 in
theorem q_R20_Find (v0 : List (List PV)) (v1 : ByteArray) : callK br Try.prog X32 M_R20_Find L_R20_Find (lsT ll_R20_Find_19_2) 60 19 (encs [.l v0, .s v1] 0 S_R20_Find.ap) (encH [.l v0, .s v1] (ws S_R20_Find.ap) S_R20_Find.ah) (fun y => fixR Try.prog S_R20_Find.plan S_R20_Find.ah.length y) =
    (m_R20_Find [.l v0, .s v1]).go br (fun _ => none) S_R20_Find.fin := by
  rw [← callF_eq]; kernel_rfl
theorem e_R20_Find : EOK Try.prog 19 (gF S_R20_Find m_R20_Find) :=
  eokTold mixed named x32 (loopsOK_list rids lk_R20_Find_19_2) 60 S_R20_Find m_R20_Find (by
    intro us v h; unfold m_R20_Find at h; split at h
    · rename_i v0 v1; exact q_R20_Find v0 v1
    · cases h) false
noncomputable abbrev X33 : Ext := extT [(19, (gF S_R20_Find m_R20_Find))] X32
theorem x33 : XOK Try.prog X33 := xok1 x32 e_R20_Find

/-- levee/leveeref01.Compare -/
def L_R01_Compare : FuncId → Nat → Option (List Nat) := liveT []
def M_R01_Compare : FuncId → Bool := fun _ => false
def S_R01_Compare : FSp := ⟨[.agg [.i .i64, .i .i64, .s], .agg [.i .i64, .i .i64, .s]], [], [], [([.one (.i .i64)], [])]⟩
noncomputable def m_R01_Compare : List U → Rt
  | [.i v0, .i v1, .s v2, .i v3, .i v4, .s v5] =>
    (.test (v0 != v3)
    (.test (decide (v0 < v3))
    (.stop 0 [.i ((-1 : Int))])
    (.stop 0 [.i ((1 : Int))]))
    (.test (v1 != v4)
    (.test (decide (v1 < v4))
    (.stop 0 [.i ((-1 : Int))])
    (.stop 0 [.i ((1 : Int))]))
    (.test (Op.bytesLess (ByteArray.toList v2) (ByteArray.toList v5))
    (.stop 0 [.i ((-1 : Int))])
    (.test (!(Op.bytesLess (ByteArray.toList v2) (ByteArray.toList v5) || ByteArray.toList v2 == ByteArray.toList v5))
    (.stop 0 [.i ((1 : Int))])
    (.stop 0 [.i ((0 : Int))])))))
  | _ => .fail
set_option maxRecDepth 100000 in
theorem q_R01_Compare (v0 : Int) (v1 : Int) (v2 : ByteArray) (v3 : Int) (v4 : Int) (v5 : ByteArray) : callK br Try.prog X33 M_R01_Compare L_R01_Compare (lsT []) 60 33 (encs [.i v0, .i v1, .s v2, .i v3, .i v4, .s v5] 0 S_R01_Compare.ap) (encH [.i v0, .i v1, .s v2, .i v3, .i v4, .s v5] (ws S_R01_Compare.ap) S_R01_Compare.ah) (fun y => fixR Try.prog S_R01_Compare.plan S_R01_Compare.ah.length y) =
    (m_R01_Compare [.i v0, .i v1, .s v2, .i v3, .i v4, .s v5]).go br (fun _ => none) S_R01_Compare.fin := by
  rw [← callF_eq]; kernel_rfl
theorem e_R01_Compare : EOK Try.prog 33 (gF S_R01_Compare m_R01_Compare) :=
  eokTold mixed named x33 (loopsOK_list rids noneIn) 60 S_R01_Compare m_R01_Compare (by
    intro us v h; unfold m_R01_Compare at h; split at h
    · rename_i v0 v1 v2 v3 v4 v5; exact q_R01_Compare v0 v1 v2 v3 v4 v5
    · cases h) false
noncomputable abbrev X34 : Ext := extT [(33, (gF S_R01_Compare m_R01_Compare))] X33
theorem x34 : XOK Try.prog X34 := xok1 x33 e_R01_Compare

/-- levee/leveeref02.Compare -/
def L_R02_Compare : FuncId → Nat → Option (List Nat) := liveT [(48, 2, [0, 1, 5]), (48, 1000002, [0, 1]), (48, 2000002, [4])]
def M_R02_Compare : FuncId → Bool := fun _ => false
noncomputable def rd_R02_Compare_48_2 : List U → Rt
  | [.l v0, .l v1, .i v2] =>
    (.test (decide (v2 < ln v0))
    (.test (decide (v2 < ln v1))
    (.test (inR v2 (ln v0))
    (.test (inR v2 (ln v1))
    (let r0 : Rs := (Rt.res (m_R01_Compare [U.i (cI (el v0 v2) 0), U.i (cI (el v0 v2) 1), U.s (cS (el v0 v2) 2), U.i (cI (el v1 v2) 0), U.i (cI (el v1 v2) 1), U.s (cS (el v1 v2) 2)]))
    (.test (ok r0 0)
    (.test (uI (out r0 0) 0 != (0 : Int))
    (.stop 0 [.i (uI (out r0 0) 0)])
    (.next [.l v0, .l v1, .i (w64 (v2 + (1 : Int)))]))
    .fail))
    .fail)
    .fail)
    (.stop 1 [.l v0, .l v1]))
    (.stop 1 [.l v0, .l v1]))
  | _ => .fail
def sp_R02_Compare_48_2 : LSp := ⟨41, ⟨[(0, .one (.l 24)), (1, .one (.l 24)), (5, .one (.i .i64))], []⟩, [(.ret, ⟨[(4, .one (.i .i64))], []⟩), (.exit 0, ⟨[(0, .one (.l 24)), (1, .one (.l 24))], []⟩)]⟩
set_option maxRecDepth 100000 in
theorem rq_R02_Compare_48_2 (v0 : List (List PV)) (v1 : List (List PV)) (v2 : Int) : runK br Try.prog (callK br Try.prog X34 M_R02_Compare L_R02_Compare (lsT []) 40) M_R02_Compare (lsT [] 48 0) 40 0 (L_R02_Compare 48) (bodyOf Try.prog 48 2) (sp_R02_Compare_48_2.s.ts sp_R02_Compare_48_2.n [.l v0, .l v1, .i v2]) (sp_R02_Compare_48_2.s.h [.l v0, .l v1, .i v2]) (idc Try.prog 0 (L_R02_Compare 48) 2) =
    (rd_R02_Compare_48_2 [.l v0, .l v1, .i v2]).go br (fun us' => some (.normal, sp_R02_Compare_48_2.s.ts sp_R02_Compare_48_2.n us', sp_R02_Compare_48_2.s.h us')) sp_R02_Compare_48_2.fin := by
  rw [← callF_eq, ← runF_eq]; kernel_rfl
theorem lo_R02_Compare_48_2 {R : Type} : LoopTells Try.prog X34 M_R02_Compare L_R02_Compare 0 (L_R02_Compare 48) (bodyOf Try.prog 48 2) (gL (R := R) sp_R02_Compare_48_2 rd_R02_Compare_48_2 br) :=
  loopTold (callK_ev (loopsOK_list rids noneIn) 40) (lsokIn (loopsOK_list rids noneIn) 48 0 2) (by kernel_rfl) sp_R02_Compare_48_2 rd_R02_Compare_48_2 rfl (by kernel_rfl) (by
    intro us v h; unfold rd_R02_Compare_48_2 at h; split at h
    · rename_i v0 v1 v2; exact rq_R02_Compare_48_2 v0 v1 v2
    · cases h)
noncomputable abbrev ll_R02_Compare_48_2 {R : Type} : List (Nat × Nat × Nat × Smy R) := (48, 0, 2, gL sp_R02_Compare_48_2 rd_R02_Compare_48_2 br) :: []
theorem lk_R02_Compare_48_2 {R : Type} : ∀ e ∈ ll_R02_Compare_48_2 (R := R), LoopTells Try.prog X34 M_R02_Compare L_R02_Compare e.2.1 (L_R02_Compare e.1) (bodyOf Try.prog e.1 e.2.2.1) e.2.2.2 := List.forall_mem_cons.2 ⟨lo_R02_Compare_48_2, noneIn⟩
def S_R02_Compare : FSp := ⟨[.one (.l 24), .one (.l 24)], [], [], [([.one (.i .i64)], [])]⟩
noncomputable def m_R02_Compare : List U → Rt
  | [.l v0, .l v1] =>
    (let r0 : Rs := (lres rd_R02_Compare_48_2 [U.l v0, U.l v1, U.i (0 : Int)])
    (.test (ok r0 0)
    (.stop 0 [.i (uI (out r0 0) 0)])
    (.test (ok r0 1)
    (.test (decide (ln (uL (out r0 1) 0) < ln (uL (out r0 1) 1)))
    (.stop 0 [.i ((-1 : Int))])
    (.test (decide (ln (uL (out r0 1) 0) > ln (uL (out r0 1) 1)))
    (.stop 0 [.i ((1 : Int))])
    (.stop 0 [.i ((0 : Int))])))
    .fail)))
  | _ => .fail
set_option maxRecDepth 100000 in
theorem q_R02_Compare (v0 : List (List PV)) (v1 : List (List PV)) : callK br Try.prog X34 M_R02_Compare L_R02_Compare (lsT ll_R02_Compare_48_2) 60 48 (encs [.l v0, .l v1] 0 S_R02_Compare.ap) (encH [.l v0, .l v1] (ws S_R02_Compare.ap) S_R02_Compare.ah) (fun y => fixR Try.prog S_R02_Compare.plan S_R02_Compare.ah.length y) =
    (m_R02_Compare [.l v0, .l v1]).go br (fun _ => none) S_R02_Compare.fin := by
  rw [← callF_eq]; kernel_rfl
theorem e_R02_Compare : EOK Try.prog 48 (gF S_R02_Compare m_R02_Compare) :=
  eokTold mixed named x34 (loopsOK_list rids lk_R02_Compare_48_2) 60 S_R02_Compare m_R02_Compare (by
    intro us v h; unfold m_R02_Compare at h; split at h
    · rename_i v0 v1; exact q_R02_Compare v0 v1
    · cases h) false
noncomputable abbrev X35 : Ext := extT [(48, (gF S_R02_Compare m_R02_Compare))] X34
theorem x35 : XOK Try.prog X35 := xok1 x34 e_R02_Compare

/-- levee/leveeref16.SameRecs -/
def L_R16_SameRecs : FuncId → Nat → Option (List Nat) := liveT [(41, 4, [0, 1, 5]), (41, 1000004, []), (41, 2000004, [4])]
def M_R16_SameRecs : FuncId → Bool := fun _ => false
noncomputable def rd_R16_SameRecs_41_4 : List U → Rt
  | [.l v0, .l v1, .i v2] =>
    (.test (decide (v2 < ln v0))
    (.test (inR v2 (ln v0))
    (.test (inR v2 (ln v1))
    (.test (cI (el v0 v2) 1 != cI (el v1 v2) 1)
    (.stop 0 [.b false])
    (.test (inR v2 (ln v0))
    (.test (inR v2 (ln v1))
    (let r0 : Rs := (Rt.res (m_R02_Compare [U.l (cL (el v0 v2) 0), U.l (cL (el v1 v2) 0)]))
    (.test (ok r0 0)
    (.test (uI (out r0 0) 0 != (0 : Int))
    (.stop 0 [.b false])
    (.next [.l v0, .l v1, .i (w64 (v2 + (1 : Int)))]))
    .fail))
    .fail)
    .fail))
    .fail)
    .fail)
    (.stop 1 []))
  | _ => .fail
def sp_R16_SameRecs_41_4 : LSp := ⟨42, ⟨[(0, .one (.l 59)), (1, .one (.l 59)), (5, .one (.i .i64))], []⟩, [(.ret, ⟨[(4, .one (.b))], []⟩), (.exit 0, ⟨[], []⟩)]⟩
set_option maxRecDepth 100000 in
theorem rq_R16_SameRecs_41_4 (v0 : List (List PV)) (v1 : List (List PV)) (v2 : Int) : runK br Try.prog (callK br Try.prog X35 M_R16_SameRecs L_R16_SameRecs (lsT []) 40) M_R16_SameRecs (lsT [] 41 0) 40 0 (L_R16_SameRecs 41) (bodyOf Try.prog 41 4) (sp_R16_SameRecs_41_4.s.ts sp_R16_SameRecs_41_4.n [.l v0, .l v1, .i v2]) (sp_R16_SameRecs_41_4.s.h [.l v0, .l v1, .i v2]) (idc Try.prog 0 (L_R16_SameRecs 41) 4) =
    (rd_R16_SameRecs_41_4 [.l v0, .l v1, .i v2]).go br (fun us' => some (.normal, sp_R16_SameRecs_41_4.s.ts sp_R16_SameRecs_41_4.n us', sp_R16_SameRecs_41_4.s.h us')) sp_R16_SameRecs_41_4.fin := by
  rw [← callF_eq, ← runF_eq]; kernel_rfl
theorem lo_R16_SameRecs_41_4 {R : Type} : LoopTells Try.prog X35 M_R16_SameRecs L_R16_SameRecs 0 (L_R16_SameRecs 41) (bodyOf Try.prog 41 4) (gL (R := R) sp_R16_SameRecs_41_4 rd_R16_SameRecs_41_4 br) :=
  loopTold (callK_ev (loopsOK_list rids noneIn) 40) (lsokIn (loopsOK_list rids noneIn) 41 0 4) (by kernel_rfl) sp_R16_SameRecs_41_4 rd_R16_SameRecs_41_4 rfl (by kernel_rfl) (by
    intro us v h; unfold rd_R16_SameRecs_41_4 at h; split at h
    · rename_i v0 v1 v2; exact rq_R16_SameRecs_41_4 v0 v1 v2
    · cases h)
noncomputable abbrev ll_R16_SameRecs_41_4 {R : Type} : List (Nat × Nat × Nat × Smy R) := (41, 0, 4, gL sp_R16_SameRecs_41_4 rd_R16_SameRecs_41_4 br) :: []
theorem lk_R16_SameRecs_41_4 {R : Type} : ∀ e ∈ ll_R16_SameRecs_41_4 (R := R), LoopTells Try.prog X35 M_R16_SameRecs L_R16_SameRecs e.2.1 (L_R16_SameRecs e.1) (bodyOf Try.prog e.1 e.2.2.1) e.2.2.2 := List.forall_mem_cons.2 ⟨lo_R16_SameRecs_41_4, noneIn⟩
def S_R16_SameRecs : FSp := ⟨[.one (.l 59), .one (.l 59)], [], [], [([.one (.b)], [])]⟩
noncomputable def m_R16_SameRecs : List U → Rt
  | [.l v0, .l v1] =>
    (.test (ln v0 != ln v1)
    (.stop 0 [.b false])
    (let r0 : Rs := (lres rd_R16_SameRecs_41_4 [U.l v0, U.l v1, U.i (0 : Int)])
    (.test (ok r0 0)
    (.stop 0 [.b (uB (out r0 0) 0)])
    (.test (ok r0 1)
    (.stop 0 [.b true])
    .fail))))
  | _ => .fail
set_option maxRecDepth 100000 in
theorem q_R16_SameRecs (v0 : List (List PV)) (v1 : List (List PV)) : callK br Try.prog X35 M_R16_SameRecs L_R16_SameRecs (lsT ll_R16_SameRecs_41_4) 60 41 (encs [.l v0, .l v1] 0 S_R16_SameRecs.ap) (encH [.l v0, .l v1] (ws S_R16_SameRecs.ap) S_R16_SameRecs.ah) (fun y => fixR Try.prog S_R16_SameRecs.plan S_R16_SameRecs.ah.length y) =
    (m_R16_SameRecs [.l v0, .l v1]).go br (fun _ => none) S_R16_SameRecs.fin := by
  rw [← callF_eq]; kernel_rfl
theorem e_R16_SameRecs : EOK Try.prog 41 (gF S_R16_SameRecs m_R16_SameRecs) :=
  eokTold mixed named x35 (loopsOK_list rids lk_R16_SameRecs_41_4) 60 S_R16_SameRecs m_R16_SameRecs (by
    intro us v h; unfold m_R16_SameRecs at h; split at h
    · rename_i v0 v1; exact q_R16_SameRecs v0 v1
    · cases h) false
noncomputable abbrev X36 : Ext := extT [(41, (gF S_R16_SameRecs m_R16_SameRecs))] X35
theorem x36 : XOK Try.prog X36 := xok1 x35 e_R16_SameRecs

/-- levee/leveeref16.Same -/
def L_R16_Same : FuncId → Nat → Option (List Nat) := liveT []
def M_R16_Same : FuncId → Bool := fun _ => false
def S_R16_Same : FSp := ⟨[.agg [.s, .l 59], .agg [.s, .l 59]], [], [], [([.one (.b)], [])]⟩
noncomputable def m_R16_Same : List U → Rt
  | [.s v0, .l v1, .s v2, .l v3] =>
    (.test (ByteArray.toList v0 == ByteArray.toList v2)
    (let r0 : Rs := (Rt.res (m_R16_SameRecs [U.l v1, U.l v3]))
    (.test (ok r0 0)
    (.stop 0 [.b (uB (out r0 0) 0)])
    .fail))
    (.stop 0 [.b false]))
  | _ => .fail
set_option maxRecDepth 100000 in
theorem q_R16_Same (v0 : ByteArray) (v1 : List (List PV)) (v2 : ByteArray) (v3 : List (List PV)) : callK br Try.prog X36 M_R16_Same L_R16_Same (lsT []) 60 17 (encs [.s v0, .l v1, .s v2, .l v3] 0 S_R16_Same.ap) (encH [.s v0, .l v1, .s v2, .l v3] (ws S_R16_Same.ap) S_R16_Same.ah) (fun y => fixR Try.prog S_R16_Same.plan S_R16_Same.ah.length y) =
    (m_R16_Same [.s v0, .l v1, .s v2, .l v3]).go br (fun _ => none) S_R16_Same.fin := by
  rw [← callF_eq]; kernel_rfl
theorem e_R16_Same : EOK Try.prog 17 (gF S_R16_Same m_R16_Same) :=
  eokTold mixed named x36 (loopsOK_list rids noneIn) 60 S_R16_Same m_R16_Same (by
    intro us v h; unfold m_R16_Same at h; split at h
    · rename_i v0 v1 v2 v3; exact q_R16_Same v0 v1 v2 v3
    · cases h) false
noncomputable abbrev X37 : Ext := extT [(17, (gF S_R16_Same m_R16_Same))] X36
theorem x37 : XOK Try.prog X37 := xok1 x36 e_R16_Same

/-- levee/leveeref01.May -/
def L_R01_May : FuncId → Nat → Option (List Nat) := liveT []
def M_R01_May : FuncId → Bool := fun _ => false
def S_R01_May : FSp := ⟨[.agg [.i .i64, .i .i64, .s]], [], [], [([.one (.b)], [])]⟩
noncomputable def m_R01_May : List U → Rt
  | [.i v0, .i v1, .s v2] =>
    (.test (v0 == (0 : Int))
    (.test (ByteArray.toList v2 == [])
    (.test (decide (v1 ≥ (0 : Int)))
    (.stop 0 [.b (decide (v1 ≤ v0))])
    (.stop 0 [.b false]))
    (.stop 0 [.b false]))
    (.test (v0 == (1 : Int))
    (.test (ByteArray.toList v2 == [])
    (.test (decide (v1 ≥ (0 : Int)))
    (.stop 0 [.b (decide (v1 ≤ v0))])
    (.stop 0 [.b false]))
    (.stop 0 [.b false]))
    (.test (v0 == (2 : Int))
    (.stop 0 [.b (ByteArray.toList v2 == [])])
    (.test (v0 == (3 : Int))
    (.test (v1 == (0 : Int))
    (.stop 0 [.b (decide ((↑(ByteArray.size v2) : Int) ≤ (1000 : Int)))])
    (.stop 0 [.b false]))
    (.stop 0 [.b false])))))
  | _ => .fail
set_option maxRecDepth 100000 in
theorem q_R01_May (v0 : Int) (v1 : Int) (v2 : ByteArray) : callK br Try.prog X37 M_R01_May L_R01_May (lsT []) 60 105 (encs [.i v0, .i v1, .s v2] 0 S_R01_May.ap) (encH [.i v0, .i v1, .s v2] (ws S_R01_May.ap) S_R01_May.ah) (fun y => fixR Try.prog S_R01_May.plan S_R01_May.ah.length y) =
    (m_R01_May [.i v0, .i v1, .s v2]).go br (fun _ => none) S_R01_May.fin := by
  rw [← callF_eq]; kernel_rfl
theorem e_R01_May : EOK Try.prog 105 (gF S_R01_May m_R01_May) :=
  eokTold mixed named x37 (loopsOK_list rids noneIn) 60 S_R01_May m_R01_May (by
    intro us v h; unfold m_R01_May at h; split at h
    · rename_i v0 v1 v2; exact q_R01_May v0 v1 v2
    · cases h) false
noncomputable abbrev X38 : Ext := extT [(105, (gF S_R01_May m_R01_May))] X37
theorem x38 : XOK Try.prog X38 := xok1 x37 e_R01_May

/-- levee/leveeref02.May -/
def L_R02_May : FuncId → Nat → Option (List Nat) := liveT [(88, 2, [0, 3]), (88, 1000002, []), (88, 2000002, [2])]
def M_R02_May : FuncId → Bool := fun _ => false
noncomputable def rd_R02_May_88_2 : List U → Rt
  | [.l v0, .i v1] =>
    (.test (decide (v1 < ln v0))
    (.test (inR v1 (ln v0))
    (let r0 : Rs := (Rt.res (m_R01_May [U.i (cI (el v0 v1) 0), U.i (cI (el v0 v1) 1), U.s (cS (el v0 v1) 2)]))
    (.test (ok r0 0)
    (.test (!uB (out r0 0) 0)
    (.stop 0 [.b false])
    (.next [.l v0, .i (w64 (v1 + (1 : Int)))]))
    .fail))
    .fail)
    (.stop 1 []))
  | _ => .fail
def sp_R02_May_88_2 : LSp := ⟨16, ⟨[(0, .one (.l 24)), (3, .one (.i .i64))], []⟩, [(.ret, ⟨[(2, .one (.b))], []⟩), (.exit 0, ⟨[], []⟩)]⟩
set_option maxRecDepth 100000 in
theorem rq_R02_May_88_2 (v0 : List (List PV)) (v1 : Int) : runK br Try.prog (callK br Try.prog X38 M_R02_May L_R02_May (lsT []) 40) M_R02_May (lsT [] 88 0) 40 0 (L_R02_May 88) (bodyOf Try.prog 88 2) (sp_R02_May_88_2.s.ts sp_R02_May_88_2.n [.l v0, .i v1]) (sp_R02_May_88_2.s.h [.l v0, .i v1]) (idc Try.prog 0 (L_R02_May 88) 2) =
    (rd_R02_May_88_2 [.l v0, .i v1]).go br (fun us' => some (.normal, sp_R02_May_88_2.s.ts sp_R02_May_88_2.n us', sp_R02_May_88_2.s.h us')) sp_R02_May_88_2.fin := by
  rw [← callF_eq, ← runF_eq]; kernel_rfl
theorem lo_R02_May_88_2 {R : Type} : LoopTells Try.prog X38 M_R02_May L_R02_May 0 (L_R02_May 88) (bodyOf Try.prog 88 2) (gL (R := R) sp_R02_May_88_2 rd_R02_May_88_2 br) :=
  loopTold (callK_ev (loopsOK_list rids noneIn) 40) (lsokIn (loopsOK_list rids noneIn) 88 0 2) (by kernel_rfl) sp_R02_May_88_2 rd_R02_May_88_2 rfl (by kernel_rfl) (by
    intro us v h; unfold rd_R02_May_88_2 at h; split at h
    · rename_i v0 v1; exact rq_R02_May_88_2 v0 v1
    · cases h)
noncomputable abbrev ll_R02_May_88_2 {R : Type} : List (Nat × Nat × Nat × Smy R) := (88, 0, 2, gL sp_R02_May_88_2 rd_R02_May_88_2 br) :: []
theorem lk_R02_May_88_2 {R : Type} : ∀ e ∈ ll_R02_May_88_2 (R := R), LoopTells Try.prog X38 M_R02_May L_R02_May e.2.1 (L_R02_May e.1) (bodyOf Try.prog e.1 e.2.2.1) e.2.2.2 := List.forall_mem_cons.2 ⟨lo_R02_May_88_2, noneIn⟩
def S_R02_May : FSp := ⟨[.one (.l 24)], [], [], [([.one (.b)], [])]⟩
noncomputable def m_R02_May : List U → Rt
  | [.l v0] =>
    (let r0 : Rs := (lres rd_R02_May_88_2 [U.l v0, U.i (0 : Int)])
    (.test (ok r0 0)
    (.stop 0 [.b (uB (out r0 0) 0)])
    (.test (ok r0 1)
    (.stop 0 [.b true])
    .fail)))
  | _ => .fail
set_option maxRecDepth 100000 in
theorem q_R02_May (v0 : List (List PV)) : callK br Try.prog X38 M_R02_May L_R02_May (lsT ll_R02_May_88_2) 60 88 (encs [.l v0] 0 S_R02_May.ap) (encH [.l v0] (ws S_R02_May.ap) S_R02_May.ah) (fun y => fixR Try.prog S_R02_May.plan S_R02_May.ah.length y) =
    (m_R02_May [.l v0]).go br (fun _ => none) S_R02_May.fin := by
  rw [← callF_eq]; kernel_rfl
theorem e_R02_May : EOK Try.prog 88 (gF S_R02_May m_R02_May) :=
  eokTold mixed named x38 (loopsOK_list rids lk_R02_May_88_2) 60 S_R02_May m_R02_May (by
    intro us v h; unfold m_R02_May at h; split at h
    · rename_i v0; exact q_R02_May v0
    · cases h) false
noncomputable abbrev X39 : Ext := extT [(88, (gF S_R02_May m_R02_May))] X38
theorem x39 : XOK Try.prog X39 := xok1 x38 e_R02_May

/-- levee/leveeref04.May -/
def L_R04_May : FuncId → Nat → Option (List Nat) := liveT []
def M_R04_May : FuncId → Bool := fun _ => false
def S_R04_May : FSp := ⟨[.one (.l 24)], [], [], [([.one (.b)], [])]⟩
noncomputable def m_R04_May : List U → Rt
  | [.l v0] =>
    (.test (decide (ln v0 ≤ (40 : Int)))
    (let r0 : Rs := (Rt.res (m_R02_May [U.l v0]))
    (.test (ok r0 0)
    (.stop 0 [.b (uB (out r0 0) 0)])
    .fail))
    (.stop 0 [.b false]))
  | _ => .fail
set_option maxRecDepth 100000 in
theorem q_R04_May (v0 : List (List PV)) : callK br Try.prog X39 M_R04_May L_R04_May (lsT []) 60 64 (encs [.l v0] 0 S_R04_May.ap) (encH [.l v0] (ws S_R04_May.ap) S_R04_May.ah) (fun y => fixR Try.prog S_R04_May.plan S_R04_May.ah.length y) =
    (m_R04_May [.l v0]).go br (fun _ => none) S_R04_May.fin := by
  rw [← callF_eq]; kernel_rfl
theorem e_R04_May : EOK Try.prog 64 (gF S_R04_May m_R04_May) :=
  eokTold mixed named x39 (loopsOK_list rids noneIn) 60 S_R04_May m_R04_May (by
    intro us v h; unfold m_R04_May at h; split at h
    · rename_i v0; exact q_R04_May v0
    · cases h) false
noncomputable abbrev X40 : Ext := extT [(64, (gF S_R04_May m_R04_May))] X39
theorem x40 : XOK Try.prog X40 := xok1 x39 e_R04_May

/-- levee/leveeref16.Right -/
def L_R16_Right : FuncId → Nat → Option (List Nat) := liveT []
def M_R16_Right : FuncId → Bool := fun _ => false
def S_R16_Right : FSp := ⟨[.agg [.l 24, .i .i64]], [], [], [([.one (.b)], [])]⟩
noncomputable def m_R16_Right : List U → Rt
  | [.l v0, .i v1] =>
    (.test (ln v0 == (0 : Int))
    (.stop 0 [.b false])
    (.test (decide (v1 < (0 : Int)))
    (.stop 0 [.b false])
    (let r0 : Rs := (Rt.res (m_R04_May [U.l v0]))
    (.test (ok r0 0)
    (.test (uB (out r0 0) 0)
    (.test (inR (0 : Int) (ln v0))
    (.stop 0 [.b (cI (List.getD v0 0 []) 0 != (0 : Int))])
    .fail)
    (.stop 0 [.b false]))
    .fail))))
  | _ => .fail
set_option maxRecDepth 100000 in
theorem q_R16_Right (v0 : List (List PV)) (v1 : Int) : callK br Try.prog X40 M_R16_Right L_R16_Right (lsT []) 60 30 (encs [.l v0, .i v1] 0 S_R16_Right.ap) (encH [.l v0, .i v1] (ws S_R16_Right.ap) S_R16_Right.ah) (fun y => fixR Try.prog S_R16_Right.plan S_R16_Right.ah.length y) =
    (m_R16_Right [.l v0, .i v1]).go br (fun _ => none) S_R16_Right.fin := by
  rw [← callF_eq]; kernel_rfl
theorem e_R16_Right : EOK Try.prog 30 (gF S_R16_Right m_R16_Right) :=
  eokTold mixed named x40 (loopsOK_list rids noneIn) 60 S_R16_Right m_R16_Right (by
    intro us v h; unfold m_R16_Right at h; split at h
    · rename_i v0 v1; exact q_R16_Right v0 v1
    · cases h) false
noncomputable abbrev X41 : Ext := extT [(30, (gF S_R16_Right m_R16_Right))] X40
theorem x41 : XOK Try.prog X41 := xok1 x40 e_R16_Right

/-- levee/leveeref16.May -/
def L_R16_May : FuncId → Nat → Option (List Nat) := liveT [(29, 2, [1, 3]), (29, 1000002, []), (29, 2000002, [2])]
def M_R16_May : FuncId → Bool := fun _ => false
noncomputable def rd_R16_May_29_2 : List U → Rt
  | [.i v0, .s v1, .l v2] =>
    (.test (decide (v0 < ln v2))
    (.test (inR v0 (ln v2))
    (let r0 : Rs := (Rt.res (m_R16_Right [U.l (cL (el v2 v0) 0), U.i (cI (el v2 v0) 1)]))
    (.test (ok r0 0)
    (.test (!uB (out r0 0) 0)
    (.stop 0 [.b false])
    (.test (decide (v0 > (0 : Int)))
    (.test (inR (w64 (v0 - (1 : Int))) (ln v2))
    (.test (inR (0 : Int) (ln (cL (el v2 (w64 (v0 - (1 : Int)))) 0)))
    (.test (inR v0 (ln v2))
    (.test (inR (0 : Int) (ln (cL (el v2 v0) 0)))
    (let r1 : Rs := (Rt.res (m_R01_Compare [U.i (cI (List.getD (cL (el v2 (w64 (v0 - (1 : Int)))) 0) 0 []) 0), U.i (cI (List.getD (cL (el v2 (w64 (v0 - (1 : Int)))) 0) 0 []) 1), U.s (cS (List.getD (cL (el v2 (w64 (v0 - (1 : Int)))) 0) 0 []) 2), U.i (cI (List.getD (cL (el v2 v0) 0) 0 []) 0), U.i (cI (List.getD (cL (el v2 v0) 0) 0 []) 1), U.s (cS (List.getD (cL (el v2 v0) 0) 0 []) 2)]))
    (.test (ok r1 0)
    (.test (decide (uI (out r1 0) 0 ≥ (0 : Int)))
    (.stop 0 [.b false])
    (.next [.i (w64 (v0 + (1 : Int))), .s v1, .l v2]))
    .fail))
    .fail)
    .fail)
    .fail)
    .fail)
    (.next [.i (w64 (v0 + (1 : Int))), .s v1, .l v2])))
    .fail))
    .fail)
    (.stop 1 []))
  | _ => .fail
def sp_R16_May_29_2 : LSp := ⟨41, ⟨[(1, .one (.ptr 0 0)), (3, .one (.i .i64))], [.box 40 [.one (.s), .one (.l 59)]]⟩, [(.ret, ⟨[(2, .one (.b))], []⟩), (.exit 0, ⟨[], []⟩)]⟩
set_option maxRecDepth 100000 in
theorem rq_R16_May_29_2 (v0 : Int) (v1 : ByteArray) (v2 : List (List PV)) : runK br Try.prog (callK br Try.prog X41 M_R16_May L_R16_May (lsT []) 40) M_R16_May (lsT [] 29 0) 40 0 (L_R16_May 29) (bodyOf Try.prog 29 2) (sp_R16_May_29_2.s.ts sp_R16_May_29_2.n [.i v0, .s v1, .l v2]) (sp_R16_May_29_2.s.h [.i v0, .s v1, .l v2]) (idc Try.prog 0 (L_R16_May 29) 2) =
    (rd_R16_May_29_2 [.i v0, .s v1, .l v2]).go br (fun us' => some (.normal, sp_R16_May_29_2.s.ts sp_R16_May_29_2.n us', sp_R16_May_29_2.s.h us')) sp_R16_May_29_2.fin := by
  rw [← callF_eq, ← runF_eq]; kernel_rfl
theorem lo_R16_May_29_2 {R : Type} : LoopTells Try.prog X41 M_R16_May L_R16_May 0 (L_R16_May 29) (bodyOf Try.prog 29 2) (gL (R := R) sp_R16_May_29_2 rd_R16_May_29_2 br) :=
  loopTold (callK_ev (loopsOK_list rids noneIn) 40) (lsokIn (loopsOK_list rids noneIn) 29 0 2) (by kernel_rfl) sp_R16_May_29_2 rd_R16_May_29_2 rfl (by kernel_rfl) (by
    intro us v h; unfold rd_R16_May_29_2 at h; split at h
    · rename_i v0 v1 v2; exact rq_R16_May_29_2 v0 v1 v2
    · cases h)
noncomputable abbrev ll_R16_May_29_2 {R : Type} : List (Nat × Nat × Nat × Smy R) := (29, 0, 2, gL sp_R16_May_29_2 rd_R16_May_29_2 br) :: []
theorem lk_R16_May_29_2 {R : Type} : ∀ e ∈ ll_R16_May_29_2 (R := R), LoopTells Try.prog X41 M_R16_May L_R16_May e.2.1 (L_R16_May e.1) (bodyOf Try.prog e.1 e.2.2.1) e.2.2.2 := List.forall_mem_cons.2 ⟨lo_R16_May_29_2, noneIn⟩
def S_R16_May : FSp := ⟨[.agg [.s, .l 59]], [], [], [([.one (.b)], [])]⟩
noncomputable def m_R16_May : List U → Rt
  | [.s v0, .l v1] =>
    (let r0 : Rs := (lres rd_R16_May_29_2 [U.i (0 : Int), U.s v0, U.l v1])
    (.test (ok r0 0)
    (.stop 0 [.b (uB (out r0 0) 0)])
    (.test (ok r0 1)
    (.stop 0 [.b true])
    .fail)))
  | _ => .fail
set_option maxRecDepth 100000 in
theorem q_R16_May (v0 : ByteArray) (v1 : List (List PV)) : callK br Try.prog X41 M_R16_May L_R16_May (lsT ll_R16_May_29_2) 60 29 (encs [.s v0, .l v1] 0 S_R16_May.ap) (encH [.s v0, .l v1] (ws S_R16_May.ap) S_R16_May.ah) (fun y => fixR Try.prog S_R16_May.plan S_R16_May.ah.length y) =
    (m_R16_May [.s v0, .l v1]).go br (fun _ => none) S_R16_May.fin := by
  rw [← callF_eq]; kernel_rfl
theorem e_R16_May : EOK Try.prog 29 (gF S_R16_May m_R16_May) :=
  eokTold mixed named x41 (loopsOK_list rids lk_R16_May_29_2) 60 S_R16_May m_R16_May (by
    intro us v h; unfold m_R16_May at h; split at h
    · rename_i v0 v1; exact q_R16_May v0 v1
    · cases h) false
noncomputable abbrev X42 : Ext := extT [(29, (gF S_R16_May m_R16_May))] X41
theorem x42 : XOK Try.prog X42 := xok1 x41 e_R16_May

/-- levee/leveeref16.Get -/
def L_R16_Get : FuncId → Nat → Option (List Nat) := liveT [(32, 2, [2, 3, 4, 6]), (32, 1000002, [4]), (32, 2000002, [4, 5])]
def M_R16_Get : FuncId → Bool := fun _ => false
noncomputable def rd_R16_Get_32_2 : List U → Rt
  | [.i v0, .s v1, .l v2, .i v3, .i v4, .s v5, .i v6] =>
    (.test (decide (v0 < ln v2))
    (let r0 : Rs := (Rt.res (m_R16_May [U.s v1, U.l v2]))
    (.test (ok r0 0)
    (.test (uB (out r0 0) 0)
    (.test (inR v0 (ln v2))
    (.test (inR (0 : Int) (ln (cL (el v2 v0) 0)))
    (.test (cI (List.getD (cL (el v2 v0) 0) 0 []) 0 == v3 && (cI (List.getD (cL (el v2 v0) 0) 0 []) 1 == v4 && (ByteArray.toList (cS (List.getD (cL (el v2 v0) 0) 0 []) 2) == ByteArray.toList v5 && true)))
    (.test (inR v0 (ln v2))
    (.stop 0 [.b true, .l (cL (el v2 v0) 0), .i (cI (el v2 v0) 1)])
    .fail)
    (.next [.i (w64 (v0 + (1 : Int))), .s v1, .l v2, .i v3, .i v4, .s v5, .i v6]))
    .fail)
    .fail)
    (.stop 1 [.i v6]))
    .fail))
    (.stop 1 [.i v6]))
  | _ => .fail
def sp_R16_Get_32_2 : LSp := ⟨34, ⟨[(2, .one (.ptr 0 0)), (3, .one (.ptr 1 0)), (4, .one (.ptr 2 0)), (6, .one (.i .i64))], [.box 40 [.one (.s), .one (.l 59)], .box 24 [.one (.i .i64), .one (.i .i64), .one (.s)], .box 59 [.one (.nils), .one (.i .i64)]]⟩, [(.ret, ⟨[(4, .one (.ptr 0 0)), (5, .one (.b))], [.box 59 [.one (.l 24), .one (.i .i64)]]⟩), (.exit 0, ⟨[(4, .one (.ptr 0 0))], [.box 59 [.one (.nils), .one (.i .i64)]]⟩)]⟩
set_option maxRecDepth 100000 in
theorem rq_R16_Get_32_2 (v0 : Int) (v1 : ByteArray) (v2 : List (List PV)) (v3 : Int) (v4 : Int) (v5 : ByteArray) (v6 : Int) : runK br Try.prog (callK br Try.prog X42 M_R16_Get L_R16_Get (lsT []) 40) M_R16_Get (lsT [] 32 0) 40 0 (L_R16_Get 32) (bodyOf Try.prog 32 2) (sp_R16_Get_32_2.s.ts sp_R16_Get_32_2.n [.i v0, .s v1, .l v2, .i v3, .i v4, .s v5, .i v6]) (sp_R16_Get_32_2.s.h [.i v0, .s v1, .l v2, .i v3, .i v4, .s v5, .i v6]) (idc Try.prog 0 (L_R16_Get 32) 2) =
    (rd_R16_Get_32_2 [.i v0, .s v1, .l v2, .i v3, .i v4, .s v5, .i v6]).go br (fun us' => some (.normal, sp_R16_Get_32_2.s.ts sp_R16_Get_32_2.n us', sp_R16_Get_32_2.s.h us')) sp_R16_Get_32_2.fin := by
  rw [← callF_eq, ← runF_eq]; kernel_rfl
theorem lo_R16_Get_32_2 {R : Type} : LoopTells Try.prog X42 M_R16_Get L_R16_Get 0 (L_R16_Get 32) (bodyOf Try.prog 32 2) (gL (R := R) sp_R16_Get_32_2 rd_R16_Get_32_2 br) :=
  loopTold (callK_ev (loopsOK_list rids noneIn) 40) (lsokIn (loopsOK_list rids noneIn) 32 0 2) (by kernel_rfl) sp_R16_Get_32_2 rd_R16_Get_32_2 rfl (by kernel_rfl) (by
    intro us v h; unfold rd_R16_Get_32_2 at h; split at h
    · rename_i v0 v1 v2 v3 v4 v5 v6; exact rq_R16_Get_32_2 v0 v1 v2 v3 v4 v5 v6
    · cases h)
noncomputable abbrev ll_R16_Get_32_2 {R : Type} : List (Nat × Nat × Nat × Smy R) := (32, 0, 2, gL sp_R16_Get_32_2 rd_R16_Get_32_2 br) :: []
theorem lk_R16_Get_32_2 {R : Type} : ∀ e ∈ ll_R16_Get_32_2 (R := R), LoopTells Try.prog X42 M_R16_Get L_R16_Get e.2.1 (L_R16_Get e.1) (bodyOf Try.prog e.1 e.2.2.1) e.2.2.2 := List.forall_mem_cons.2 ⟨lo_R16_Get_32_2, noneIn⟩
def S_R16_Get : FSp := ⟨[.agg [.s, .l 59], .agg [.i .i64, .i .i64, .s]], [], [1000050000000], [([.agg [.l 24, .i .i64], .one (.b)], [])]⟩
noncomputable def m_R16_Get : List U → Rt
  | [.s v0, .l v1, .i v2, .i v3, .s v4] =>
    (let r0 : Rs := (lres rd_R16_Get_32_2 [U.i (0 : Int), U.s v0, U.l v1, U.i v2, U.i v3, U.s v4, U.i (0 : Int)])
    (.test (ok r0 0)
    (.stop 0 [.l (uL (out r0 0) 1), .i (uI (out r0 0) 2), .b (uB (out r0 0) 0)])
    (.test (ok r0 1)
    (.stop 0 [.l [], .i ((0 : Int)), .b false])
    .fail)))
  | _ => .fail
set_option maxRecDepth 100000 in
theorem q_R16_Get (v0 : ByteArray) (v1 : List (List PV)) (v2 : Int) (v3 : Int) (v4 : ByteArray) : callK br Try.prog X42 M_R16_Get L_R16_Get (lsT ll_R16_Get_32_2) 60 32 (encs [.s v0, .l v1, .i v2, .i v3, .s v4] 0 S_R16_Get.ap) (encH [.s v0, .l v1, .i v2, .i v3, .s v4] (ws S_R16_Get.ap) S_R16_Get.ah) (fun y => fixR Try.prog S_R16_Get.plan S_R16_Get.ah.length y) =
    (m_R16_Get [.s v0, .l v1, .i v2, .i v3, .s v4]).go br (fun _ => none) S_R16_Get.fin := by
  rw [← callF_eq]; kernel_rfl
theorem e_R16_Get : EOK Try.prog 32 (gF S_R16_Get m_R16_Get) :=
  eokTold mixed named x42 (loopsOK_list rids lk_R16_Get_32_2) 60 S_R16_Get m_R16_Get (by
    intro us v h; unfold m_R16_Get at h; split at h
    · rename_i v0 v1 v2 v3 v4; exact q_R16_Get v0 v1 v2 v3 v4
    · cases h) false
noncomputable abbrev X43 : Ext := extT [(32, (gF S_R16_Get m_R16_Get))] X42
theorem x43 : XOK Try.prog X43 := xok1 x42 e_R16_Get

/-- levee/leveeref20.One -/
def L_R20_One : FuncId → Nat → Option (List Nat) := liveT []
def M_R20_One : FuncId → Bool := fun _ => false
def S_R20_One : FSp := ⟨[.one (.l 40), .one (.s), .agg [.i .i64, .i .i64, .s]], [], [], [([.agg [.s, .i .i64, .i .i64, .s, .i .i64]], [])]⟩
noncomputable def m_R20_One : List U → Rt
  | [.l v0, .s v1, .i v2, .i v3, .s v4] =>
    (let r0 : Rs := (Rt.res (m_R20_Find [U.l v0, U.s v1]))
    (.test (ok r0 0)
    (let r1 : Rs := (Rt.res (m_R16_Get [U.s (uS (out r0 0) 0), U.l (uL (out r0 0) 1), U.i v2, U.i v3, U.s v4]))
    (.test (ok r1 0)
    (.stop 0 [.s v1, .i v2, .i v3, .s v4, .i (uI (out r1 0) 1)])
    .fail))
    .fail))
  | _ => .fail
set_option maxRecDepth 100000 in
theorem q_R20_One (v0 : List (List PV)) (v1 : ByteArray) (v2 : Int) (v3 : Int) (v4 : ByteArray) : callK br Try.prog X43 M_R20_One L_R20_One (lsT []) 60 21 (encs [.l v0, .s v1, .i v2, .i v3, .s v4] 0 S_R20_One.ap) (encH [.l v0, .s v1, .i v2, .i v3, .s v4] (ws S_R20_One.ap) S_R20_One.ah) (fun y => fixR Try.prog S_R20_One.plan S_R20_One.ah.length y) =
    (m_R20_One [.l v0, .s v1, .i v2, .i v3, .s v4]).go br (fun _ => none) S_R20_One.fin := by
  rw [← callF_eq]; kernel_rfl
theorem e_R20_One : EOK Try.prog 21 (gF S_R20_One m_R20_One) :=
  eokTold mixed named x43 (loopsOK_list rids noneIn) 60 S_R20_One m_R20_One (by
    intro us v h; unfold m_R20_One at h; split at h
    · rename_i v0 v1 v2 v3 v4; exact q_R20_One v0 v1 v2 v3 v4
    · cases h) false
noncomputable abbrev X44 : Ext := extT [(21, (gF S_R20_One m_R20_One))] X43
theorem x44 : XOK Try.prog X44 := xok1 x43 e_R20_One

/-- levee/leveeref16.Scan -/
def L_R16_Scan : FuncId → Nat → Option (List Nat) := liveT [(44, 3, [3, 4, 5, 7, 8]), (44, 1000003, [7]), (44, 2000003, [6])]
def M_R16_Scan : FuncId → Bool := fun _ => false
noncomputable def rd_R16_Scan_44_3 : List U → Rt
  | [.i v0, .s v1, .l v2, .i v3, .i v4, .s v5, .i v6, .i v7, .s v8, .l v9] =>
    (.test (decide (v0 < ln v2))
    (let r0 : Rs := (Rt.res (m_R16_May [U.s v1, U.l v2]))
    (.test (ok r0 0)
    (.test (uB (out r0 0) 0)
    (.test (inR v0 (ln v2))
    (.test (inR (0 : Int) (ln (cL (el v2 v0) 0)))
    (let r1 : Rs := (Rt.res (m_R01_Compare [U.i (cI (List.getD (cL (el v2 v0) 0) 0 []) 0), U.i (cI (List.getD (cL (el v2 v0) 0) 0 []) 1), U.s (cS (List.getD (cL (el v2 v0) 0) 0 []) 2), U.i v3, U.i v4, U.s v5]))
    (.test (ok r1 0)
    (.test (decide (uI (out r1 0) 0 ≥ (0 : Int)))
    (let r2 : Rs := (Rt.res (m_R01_Compare [U.i (cI (List.getD (cL (el v2 v0) 0) 0 []) 0), U.i (cI (List.getD (cL (el v2 v0) 0) 0 []) 1), U.s (cS (List.getD (cL (el v2 v0) 0) 0 []) 2), U.i v6, U.i v7, U.s v8]))
    (.test (ok r2 0)
    (.test (decide (uI (out r2 0) 0 < (0 : Int)))
    (.test (inR v0 (ln v2))
    (.test (decide ((List.length v9 + 1) * 32 ≤ 140737488355328))
    (.next [.i (w64 (v0 + (1 : Int))), .s v1, .l v2, .i v3, .i v4, .s v5, .i v6, .i v7, .s v8, .l (v9 ++ [[PV.lst 24 (cL (el v2 v0) 0), pI (cI (el v2 v0) 1)]])])
    .fail)
    .fail)
    (.next [.i (w64 (v0 + (1 : Int))), .s v1, .l v2, .i v3, .i v4, .s v5, .i v6, .i v7, .s v8, .l v9]))
    .fail))
    (.next [.i (w64 (v0 + (1 : Int))), .s v1, .l v2, .i v3, .i v4, .s v5, .i v6, .i v7, .s v8, .l v9]))
    .fail))
    .fail)
    .fail)
    (.stop 0 [.l v9]))
    .fail))
    (.stop 0 [.l v9]))
  | _ => .fail
def sp_R16_Scan_44_3 : LSp := ⟨49, ⟨[(3, .one (.ptr 0 0)), (4, .one (.ptr 1 0)), (5, .one (.ptr 2 0)), (7, .one (.all 3)), (8, .one (.i .i64))], [.box 40 [.one (.s), .one (.l 59)], .box 24 [.one (.i .i64), .one (.i .i64), .one (.s)], .box 24 [.one (.i .i64), .one (.i .i64), .one (.s)], .arr 59 true]⟩, [(.exit 0, ⟨[(7, .one (.all 0))], [.arr 59 true]⟩)]⟩
set_option maxRecDepth 100000 in
theorem rq_R16_Scan_44_3 (v0 : Int) (v1 : ByteArray) (v2 : List (List PV)) (v3 : Int) (v4 : Int) (v5 : ByteArray) (v6 : Int) (v7 : Int) (v8 : ByteArray) (v9 : List (List PV)) : runK br Try.prog (callK br Try.prog X44 M_R16_Scan L_R16_Scan (lsT []) 40) M_R16_Scan (lsT [] 44 0) 40 0 (L_R16_Scan 44) (bodyOf Try.prog 44 3) (sp_R16_Scan_44_3.s.ts sp_R16_Scan_44_3.n [.i v0, .s v1, .l v2, .i v3, .i v4, .s v5, .i v6, .i v7, .s v8, .l v9]) (sp_R16_Scan_44_3.s.h [.i v0, .s v1, .l v2, .i v3, .i v4, .s v5, .i v6, .i v7, .s v8, .l v9]) (idc Try.prog 0 (L_R16_Scan 44) 3) =
    (rd_R16_Scan_44_3 [.i v0, .s v1, .l v2, .i v3, .i v4, .s v5, .i v6, .i v7, .s v8, .l v9]).go br (fun us' => some (.normal, sp_R16_Scan_44_3.s.ts sp_R16_Scan_44_3.n us', sp_R16_Scan_44_3.s.h us')) sp_R16_Scan_44_3.fin := by
  rw [← callF_eq, ← runF_eq]; kernel_rfl
theorem lo_R16_Scan_44_3 {R : Type} : LoopTells Try.prog X44 M_R16_Scan L_R16_Scan 0 (L_R16_Scan 44) (bodyOf Try.prog 44 3) (gL (R := R) sp_R16_Scan_44_3 rd_R16_Scan_44_3 br) :=
  loopTold (callK_ev (loopsOK_list rids noneIn) 40) (lsokIn (loopsOK_list rids noneIn) 44 0 3) (by kernel_rfl) sp_R16_Scan_44_3 rd_R16_Scan_44_3 rfl (by kernel_rfl) (by
    intro us v h; unfold rd_R16_Scan_44_3 at h; split at h
    · rename_i v0 v1 v2 v3 v4 v5 v6 v7 v8 v9; exact rq_R16_Scan_44_3 v0 v1 v2 v3 v4 v5 v6 v7 v8 v9
    · cases h)
noncomputable abbrev ll_R16_Scan_44_3 {R : Type} : List (Nat × Nat × Nat × Smy R) := (44, 0, 3, gL sp_R16_Scan_44_3 rd_R16_Scan_44_3 br) :: []
theorem lk_R16_Scan_44_3 {R : Type} : ∀ e ∈ ll_R16_Scan_44_3 (R := R), LoopTells Try.prog X44 M_R16_Scan L_R16_Scan e.2.1 (L_R16_Scan e.1) (bodyOf Try.prog e.1 e.2.2.1) e.2.2.2 := List.forall_mem_cons.2 ⟨lo_R16_Scan_44_3, noneIn⟩
def S_R16_Scan : FSp := ⟨[.agg [.s, .l 59], .agg [.i .i64, .i .i64, .s], .agg [.i .i64, .i .i64, .s]], [], [], [([.one (.all 0)], [.arr 59 true])]⟩
noncomputable def m_R16_Scan : List U → Rt
  | [.s v0, .l v1, .i v2, .i v3, .s v4, .i v5, .i v6, .s v7] =>
    (let r0 : Rs := (lres rd_R16_Scan_44_3 [U.i (0 : Int), U.s v0, U.l v1, U.i v2, U.i v3, U.s v4, U.i v5, U.i v6, U.s v7, U.l []])
    (.test (ok r0 0)
    (.stop 0 [.l (uL (out r0 0) 0)])
    .fail))
  | _ => .fail
set_option maxRecDepth 100000 in
theorem q_R16_Scan (v0 : ByteArray) (v1 : List (List PV)) (v2 : Int) (v3 : Int) (v4 : ByteArray) (v5 : Int) (v6 : Int) (v7 : ByteArray) : callK br Try.prog X44 M_R16_Scan L_R16_Scan (lsT ll_R16_Scan_44_3) 60 44 (encs [.s v0, .l v1, .i v2, .i v3, .s v4, .i v5, .i v6, .s v7] 0 S_R16_Scan.ap) (encH [.s v0, .l v1, .i v2, .i v3, .s v4, .i v5, .i v6, .s v7] (ws S_R16_Scan.ap) S_R16_Scan.ah) (fun y => fixR Try.prog S_R16_Scan.plan S_R16_Scan.ah.length y) =
    (m_R16_Scan [.s v0, .l v1, .i v2, .i v3, .s v4, .i v5, .i v6, .s v7]).go br (fun _ => none) S_R16_Scan.fin := by
  rw [← callF_eq]; kernel_rfl
theorem e_R16_Scan : EOK Try.prog 44 (gF S_R16_Scan m_R16_Scan) :=
  eokTold mixed named x44 (loopsOK_list rids lk_R16_Scan_44_3) 60 S_R16_Scan m_R16_Scan (by
    intro us v h; unfold m_R16_Scan at h; split at h
    · rename_i v0 v1 v2 v3 v4 v5 v6 v7; exact q_R16_Scan v0 v1 v2 v3 v4 v5 v6 v7
    · cases h) false
noncomputable abbrev X45 : Ext := extT [(44, (gF S_R16_Scan m_R16_Scan))] X44
theorem x45 : XOK Try.prog X45 := xok1 x44 e_R16_Scan

/-- levee/leveeref20.Between -/
def L_R20_Between : FuncId → Nat → Option (List Nat) := liveT [(24, 4, [0, 1, 8, 9, 10, 11] ++ [8000087000009]), (24, 1000004, [8, 9]), (24, 2000004, [8])]
def M_R20_Between : FuncId → Bool := fun _ => false
noncomputable def rd_R20_Between_24_4 : List U → Rt
  | [.l v0, .s v1, .i v2, .s v3, .i v4, .i v5, .s v6, .i v7, .i v8, .s v9, .s v10, .i v11, .i v12, .s v13, .i v14, .i v15, .s v16, .l v17, .l v18] =>
    (.test (decide (v2 < ln v17))
    (.test (inR v2 (ln v17))
    (.test (decide (Int.toNat v2 < List.length v17))
    (.test (inR (0 : Int) (ln (cL (el v17 v2) 0)))
    (let r0 : Rs := (Rt.res (m_R20_One [U.l v0, U.s v1, U.i (cI (List.getD (cL (el v17 v2) 0) 0 []) 0), U.i (cI (List.getD (cL (el v17 v2) 0) 0 []) 1), U.s (cS (List.getD (cL (el v17 v2) 0) 0 []) 2)]))
    (.test (ok r0 0)
    (.test (decide ((List.length v18 + 1) * 56 ≤ 140737488355328))
    (.next [.l v0, .s v1, .i (w64 (v2 + (1 : Int))), .s v3, .i v4, .i v5, .s v6, .i v7, .i v8, .s v9, .s v10, .i v11, .i v12, .s v13, .i v14, .i v15, .s v16, .l v17, .l (v18 ++ [[pS (uS (out r0 0) 0), pI (uI (out r0 0) 1), pI (uI (out r0 0) 2), pS (uS (out r0 0) 3), pI (uI (out r0 0) 4)]])])
    .fail)
    .fail))
    .fail)
    .fail)
    .fail)
    (.stop 0 [.s v3, .i v4, .i v5, .s v6, .i v7, .i v8, .s v9, .s v10, .i v11, .i v12, .s v13, .i v14, .i v15, .s v16, .l v18]))
  | _ => .fail
def sp_R20_Between_24_4 : LSp := ⟨44, ⟨[(0, .one (.l 40)), (1, .one (.s)), (8, .one (.ptr 0 0)), (9, .one (.ptr 1 0)), (10, .one (.all 2)), (11, .one (.i .i64))], [.box 47 [.one (.s), .one (.i .i64), .one (.i .i64), .one (.s), .one (.i .i64), .one (.i .i64), .one (.s), .one (.nils)], .box 47 [.one (.s), .one (.i .i64), .one (.i .i64), .one (.s), .one (.i .i64), .one (.i .i64), .one (.s), .one (.all 3)], .arr 59 true, .arr 43 true]⟩, [(.exit 0, ⟨[(8, .one (.ptr 0 0)), (9, .one (.ptr 1 0))], [.box 47 [.one (.s), .one (.i .i64), .one (.i .i64), .one (.s), .one (.i .i64), .one (.i .i64), .one (.s), .one (.nils)], .box 47 [.one (.s), .one (.i .i64), .one (.i .i64), .one (.s), .one (.i .i64), .one (.i .i64), .one (.s), .one (.all 2)], .arr 43 true]⟩)]⟩
set_option maxRecDepth 100000 in
theorem rq_R20_Between_24_4 (v0 : List (List PV)) (v1 : ByteArray) (v2 : Int) (v3 : ByteArray) (v4 : Int) (v5 : Int) (v6 : ByteArray) (v7 : Int) (v8 : Int) (v9 : ByteArray) (v10 : ByteArray) (v11 : Int) (v12 : Int) (v13 : ByteArray) (v14 : Int) (v15 : Int) (v16 : ByteArray) (v17 : List (List PV)) (v18 : List (List PV)) : runK br Try.prog (callK br Try.prog X45 M_R20_Between L_R20_Between (lsT []) 40) M_R20_Between (lsT [] 24 0) 40 0 (L_R20_Between 24) (bodyOf Try.prog 24 4) (sp_R20_Between_24_4.s.ts sp_R20_Between_24_4.n [.l v0, .s v1, .i v2, .s v3, .i v4, .i v5, .s v6, .i v7, .i v8, .s v9, .s v10, .i v11, .i v12, .s v13, .i v14, .i v15, .s v16, .l v17, .l v18]) (sp_R20_Between_24_4.s.h [.l v0, .s v1, .i v2, .s v3, .i v4, .i v5, .s v6, .i v7, .i v8, .s v9, .s v10, .i v11, .i v12, .s v13, .i v14, .i v15, .s v16, .l v17, .l v18]) (idc Try.prog 0 (L_R20_Between 24) 4) =
    (rd_R20_Between_24_4 [.l v0, .s v1, .i v2, .s v3, .i v4, .i v5, .s v6, .i v7, .i v8, .s v9, .s v10, .i v11, .i v12, .s v13, .i v14, .i v15, .s v16, .l v17, .l v18]).go br (fun us' => some (.normal, sp_R20_Between_24_4.s.ts sp_R20_Between_24_4.n us', sp_R20_Between_24_4.s.h us')) sp_R20_Between_24_4.fin := by
  rw [← callF_eq, ← runF_eq]; kernel_rfl
theorem lo_R20_Between_24_4 {R : Type} : LoopTells Try.prog X45 M_R20_Between L_R20_Between 0 (L_R20_Between 24) (bodyOf Try.prog 24 4) (gL (R := R) sp_R20_Between_24_4 rd_R20_Between_24_4 br) :=
  loopTold (callK_ev (loopsOK_list rids noneIn) 40) (lsokIn (loopsOK_list rids noneIn) 24 0 4) (by kernel_rfl) sp_R20_Between_24_4 rd_R20_Between_24_4 rfl (by kernel_rfl) (by
    intro us v h; unfold rd_R20_Between_24_4 at h; split at h
    · rename_i v0 v1 v2 v3 v4 v5 v6 v7 v8 v9 v10 v11 v12 v13 v14 v15 v16 v17 v18; exact rq_R20_Between_24_4 v0 v1 v2 v3 v4 v5 v6 v7 v8 v9 v10 v11 v12 v13 v14 v15 v16 v17 v18
    · cases h)
noncomputable abbrev ll_R20_Between_24_4 {R : Type} : List (Nat × Nat × Nat × Smy R) := (24, 0, 4, gL sp_R20_Between_24_4 rd_R20_Between_24_4 br) :: []
theorem lk_R20_Between_24_4 {R : Type} : ∀ e ∈ ll_R20_Between_24_4 (R := R), LoopTells Try.prog X45 M_R20_Between L_R20_Between e.2.1 (L_R20_Between e.1) (bodyOf Try.prog e.1 e.2.2.1) e.2.2.2 := List.forall_mem_cons.2 ⟨lo_R20_Between_24_4, noneIn⟩
def S_R20_Between : FSp := ⟨[.one (.l 40), .one (.s), .agg [.i .i64, .i .i64, .s], .agg [.i .i64, .i .i64, .s]], [], [], [([.agg [.s, .i .i64, .i .i64, .s, .i .i64, .i .i64, .s, .all 0]], [.arr 43 true])]⟩
noncomputable def m_R20_Between : List U → Rt
  | [.l v0, .s v1, .i v2, .i v3, .s v4, .i v5, .i v6, .s v7] =>
    (let r0 : Rs := (Rt.res (m_R20_Find [U.l v0, U.s v1]))
    (.test (ok r0 0)
    (let r1 : Rs := (Rt.res (m_R16_Scan [U.s (uS (out r0 0) 0), U.l (uL (out r0 0) 1), U.i v2, U.i v3, U.s v4, U.i v5, U.i v6, U.s v7]))
    (.test (ok r1 0)
    (let r2 : Rs := (lres rd_R20_Between_24_4 [U.l v0, U.s v1, U.i (0 : Int), U.s { data := #[] }, U.i (0 : Int), U.i (0 : Int), U.s { data := #[] }, U.i (0 : Int), U.i (0 : Int), U.s { data := #[] }, U.s v1, U.i v2, U.i v3, U.s v4, U.i v5, U.i v6, U.s v7, U.l (uL (out r1 0) 0), U.l []])
    (.test (ok r2 0)
    (.stop 0 [.s (uS (out r2 0) 7), .i (uI (out r2 0) 8), .i (uI (out r2 0) 9), .s (uS (out r2 0) 10), .i (uI (out r2 0) 11), .i (uI (out r2 0) 12), .s (uS (out r2 0) 13), .l (uL (out r2 0) 14)])
    .fail))
    .fail))
    .fail))
  | _ => .fail
set_option maxRecDepth 100000 in
theorem q_R20_Between (v0 : List (List PV)) (v1 : ByteArray) (v2 : Int) (v3 : Int) (v4 : ByteArray) (v5 : Int) (v6 : Int) (v7 : ByteArray) : callK br Try.prog X45 M_R20_Between L_R20_Between (lsT ll_R20_Between_24_4) 60 24 (encs [.l v0, .s v1, .i v2, .i v3, .s v4, .i v5, .i v6, .s v7] 0 S_R20_Between.ap) (encH [.l v0, .s v1, .i v2, .i v3, .s v4, .i v5, .i v6, .s v7] (ws S_R20_Between.ap) S_R20_Between.ah) (fun y => fixR Try.prog S_R20_Between.plan S_R20_Between.ah.length y) =
    (m_R20_Between [.l v0, .s v1, .i v2, .i v3, .s v4, .i v5, .i v6, .s v7]).go br (fun _ => none) S_R20_Between.fin := by
  rw [← callF_eq]; kernel_rfl
theorem e_R20_Between : EOK Try.prog 24 (gF S_R20_Between m_R20_Between) :=
  eokTold mixed named x45 (loopsOK_list rids lk_R20_Between_24_4) 60 S_R20_Between m_R20_Between (by
    intro us v h; unfold m_R20_Between at h; split at h
    · rename_i v0 v1 v2 v3 v4 v5 v6 v7; exact q_R20_Between v0 v1 v2 v3 v4 v5 v6 v7
    · cases h) false
noncomputable abbrev X46 : Ext := extT [(24, (gF S_R20_Between m_R20_Between))] X45
theorem x46 : XOK Try.prog X46 := xok1 x45 e_R20_Between

/-- levee/leveeref20.SameReads -/
def L_R20_SameReads : FuncId → Nat → Option (List Nat) := liveT [(35, 4, [0, 1, 5]), (35, 1000004, []), (35, 2000004, [4])]
def M_R20_SameReads : FuncId → Bool := fun _ => false
noncomputable def rd_R20_SameReads_35_4 : List U → Rt
  | [.l v0, .l v1, .i v2] =>
    (.test (decide (v2 < ln v0))
    (.test (inR v2 (ln v0))
    (.test (inR v2 (ln v1))
    (.test (!(ByteArray.toList (cS (el v0 v2) 0) == ByteArray.toList (cS (el v1 v2) 0) && (cI (el v0 v2) 1 == cI (el v1 v2) 1 && (cI (el v0 v2) 2 == cI (el v1 v2) 2 && (ByteArray.toList (cS (el v0 v2) 3) == ByteArray.toList (cS (el v1 v2) 3) && true)) && (cI (el v0 v2) 4 == cI (el v1 v2) 4 && true))))
    (.stop 0 [.b false])
    (.next [.l v0, .l v1, .i (w64 (v2 + (1 : Int)))]))
    .fail)
    .fail)
    (.stop 1 []))
  | _ => .fail
def sp_R20_SameReads_35_4 : LSp := ⟨26, ⟨[(0, .one (.l 43)), (1, .one (.l 43)), (5, .one (.i .i64))], []⟩, [(.ret, ⟨[(4, .one (.b))], []⟩), (.exit 0, ⟨[], []⟩)]⟩
set_option maxRecDepth 100000 in
theorem rq_R20_SameReads_35_4 (v0 : List (List PV)) (v1 : List (List PV)) (v2 : Int) : runK br Try.prog (callK br Try.prog X46 M_R20_SameReads L_R20_SameReads (lsT []) 40) M_R20_SameReads (lsT [] 35 0) 40 0 (L_R20_SameReads 35) (bodyOf Try.prog 35 4) (sp_R20_SameReads_35_4.s.ts sp_R20_SameReads_35_4.n [.l v0, .l v1, .i v2]) (sp_R20_SameReads_35_4.s.h [.l v0, .l v1, .i v2]) (idc Try.prog 0 (L_R20_SameReads 35) 4) =
    (rd_R20_SameReads_35_4 [.l v0, .l v1, .i v2]).go br (fun us' => some (.normal, sp_R20_SameReads_35_4.s.ts sp_R20_SameReads_35_4.n us', sp_R20_SameReads_35_4.s.h us')) sp_R20_SameReads_35_4.fin := by
  rw [← callF_eq, ← runF_eq]; kernel_rfl
theorem lo_R20_SameReads_35_4 {R : Type} : LoopTells Try.prog X46 M_R20_SameReads L_R20_SameReads 0 (L_R20_SameReads 35) (bodyOf Try.prog 35 4) (gL (R := R) sp_R20_SameReads_35_4 rd_R20_SameReads_35_4 br) :=
  loopTold (callK_ev (loopsOK_list rids noneIn) 40) (lsokIn (loopsOK_list rids noneIn) 35 0 4) (by kernel_rfl) sp_R20_SameReads_35_4 rd_R20_SameReads_35_4 rfl (by kernel_rfl) (by
    intro us v h; unfold rd_R20_SameReads_35_4 at h; split at h
    · rename_i v0 v1 v2; exact rq_R20_SameReads_35_4 v0 v1 v2
    · cases h)
noncomputable abbrev ll_R20_SameReads_35_4 {R : Type} : List (Nat × Nat × Nat × Smy R) := (35, 0, 4, gL sp_R20_SameReads_35_4 rd_R20_SameReads_35_4 br) :: []
theorem lk_R20_SameReads_35_4 {R : Type} : ∀ e ∈ ll_R20_SameReads_35_4 (R := R), LoopTells Try.prog X46 M_R20_SameReads L_R20_SameReads e.2.1 (L_R20_SameReads e.1) (bodyOf Try.prog e.1 e.2.2.1) e.2.2.2 := List.forall_mem_cons.2 ⟨lo_R20_SameReads_35_4, noneIn⟩
def S_R20_SameReads : FSp := ⟨[.one (.l 43), .one (.l 43)], [], [], [([.one (.b)], [])]⟩
noncomputable def m_R20_SameReads : List U → Rt
  | [.l v0, .l v1] =>
    (.test (ln v0 != ln v1)
    (.stop 0 [.b false])
    (let r0 : Rs := (lres rd_R20_SameReads_35_4 [U.l v0, U.l v1, U.i (0 : Int)])
    (.test (ok r0 0)
    (.stop 0 [.b (uB (out r0 0) 0)])
    (.test (ok r0 1)
    (.stop 0 [.b true])
    .fail))))
  | _ => .fail
set_option maxRecDepth 100000 in
theorem q_R20_SameReads (v0 : List (List PV)) (v1 : List (List PV)) : callK br Try.prog X46 M_R20_SameReads L_R20_SameReads (lsT ll_R20_SameReads_35_4) 60 35 (encs [.l v0, .l v1] 0 S_R20_SameReads.ap) (encH [.l v0, .l v1] (ws S_R20_SameReads.ap) S_R20_SameReads.ah) (fun y => fixR Try.prog S_R20_SameReads.plan S_R20_SameReads.ah.length y) =
    (m_R20_SameReads [.l v0, .l v1]).go br (fun _ => none) S_R20_SameReads.fin := by
  rw [← callF_eq]; kernel_rfl
theorem e_R20_SameReads : EOK Try.prog 35 (gF S_R20_SameReads m_R20_SameReads) :=
  eokTold mixed named x46 (loopsOK_list rids lk_R20_SameReads_35_4) 60 S_R20_SameReads m_R20_SameReads (by
    intro us v h; unfold m_R20_SameReads at h; split at h
    · rename_i v0 v1; exact q_R20_SameReads v0 v1
    · cases h) false
noncomputable abbrev X47 : Ext := extT [(35, (gF S_R20_SameReads m_R20_SameReads))] X46
theorem x47 : XOK Try.prog X47 := xok1 x46 e_R20_SameReads

/-- levee/leveeref20.SameRange -/
def L_R20_SameRange : FuncId → Nat → Option (List Nat) := liveT []
def M_R20_SameRange : FuncId → Bool := fun _ => false
def S_R20_SameRange : FSp := ⟨[.agg [.s, .i .i64, .i .i64, .s, .i .i64, .i .i64, .s, .l 43], .agg [.s, .i .i64, .i .i64, .s, .i .i64, .i .i64, .s, .l 43]], [], [], [([.one (.b)], [])]⟩
noncomputable def m_R20_SameRange : List U → Rt
  | [.s v0, .i v1, .i v2, .s v3, .i v4, .i v5, .s v6, .l v7, .s v8, .i v9, .i v10, .s v11, .i v12, .i v13, .s v14, .l v15] =>
    (.test (ByteArray.toList v0 == ByteArray.toList v8)
    (.test (v1 == v9 && (v2 == v10 && (ByteArray.toList v3 == ByteArray.toList v11 && true)))
    (.test (v4 == v12 && (v5 == v13 && (ByteArray.toList v6 == ByteArray.toList v14 && true)))
    (let r0 : Rs := (Rt.res (m_R20_SameReads [U.l v7, U.l v15]))
    (.test (ok r0 0)
    (.stop 0 [.b (uB (out r0 0) 0)])
    .fail))
    (.stop 0 [.b false]))
    (.stop 0 [.b false]))
    (.stop 0 [.b false]))
  | _ => .fail
set_option maxRecDepth 100000 in
theorem q_R20_SameRange (v0 : ByteArray) (v1 : Int) (v2 : Int) (v3 : ByteArray) (v4 : Int) (v5 : Int) (v6 : ByteArray) (v7 : List (List PV)) (v8 : ByteArray) (v9 : Int) (v10 : Int) (v11 : ByteArray) (v12 : Int) (v13 : Int) (v14 : ByteArray) (v15 : List (List PV)) : callK br Try.prog X47 M_R20_SameRange L_R20_SameRange (lsT []) 60 22 (encs [.s v0, .i v1, .i v2, .s v3, .i v4, .i v5, .s v6, .l v7, .s v8, .i v9, .i v10, .s v11, .i v12, .i v13, .s v14, .l v15] 0 S_R20_SameRange.ap) (encH [.s v0, .i v1, .i v2, .s v3, .i v4, .i v5, .s v6, .l v7, .s v8, .i v9, .i v10, .s v11, .i v12, .i v13, .s v14, .l v15] (ws S_R20_SameRange.ap) S_R20_SameRange.ah) (fun y => fixR Try.prog S_R20_SameRange.plan S_R20_SameRange.ah.length y) =
    (m_R20_SameRange [.s v0, .i v1, .i v2, .s v3, .i v4, .i v5, .s v6, .l v7, .s v8, .i v9, .i v10, .s v11, .i v12, .i v13, .s v14, .l v15]).go br (fun _ => none) S_R20_SameRange.fin := by
  rw [← callF_eq]; kernel_rfl
theorem e_R20_SameRange : EOK Try.prog 22 (gF S_R20_SameRange m_R20_SameRange) :=
  eokTold mixed named x47 (loopsOK_list rids noneIn) 60 S_R20_SameRange m_R20_SameRange (by
    intro us v h; unfold m_R20_SameRange at h; split at h
    · rename_i v0 v1 v2 v3 v4 v5 v6 v7 v8 v9 v10 v11 v12 v13 v14 v15; exact q_R20_SameRange v0 v1 v2 v3 v4 v5 v6 v7 v8 v9 v10 v11 v12 v13 v14 v15
    · cases h) false
noncomputable abbrev X48 : Ext := extT [(22, (gF S_R20_SameRange m_R20_SameRange))] X47
theorem x48 : XOK Try.prog X48 := xok1 x47 e_R20_SameRange

/-- levee/leveeref12.Find -/
def L_R12_Find : FuncId → Nat → Option (List Nat) := liveT [(27, 2, [0, 1, 5]), (27, 1000002, []), (27, 2000002, [4])]
def M_R12_Find : FuncId → Bool := fun _ => false
noncomputable def rd_R12_Find_27_2 : List U → Rt
  | [.l v0, .s v1, .i v2] =>
    (.test (decide (v2 < ln v0))
    (.test (inR v2 (ln v0))
    (.test (ByteArray.toList (cS (el v0 v2) 0) == ByteArray.toList v1)
    (.test (inR v2 (ln v0))
    (.stop 0 [.l (cL (el v0 v2) 1)])
    .fail)
    (.next [.l v0, .s v1, .i (w64 (v2 + (1 : Int)))]))
    .fail)
    (.stop 1 []))
  | _ => .fail
def sp_R12_Find_27_2 : LSp := ⟨24, ⟨[(0, .one (.l 90)), (1, .one (.s)), (5, .one (.i .i64))], []⟩, [(.ret, ⟨[(4, .one (.l 83))], []⟩), (.exit 0, ⟨[], []⟩)]⟩
set_option maxRecDepth 100000 in
theorem rq_R12_Find_27_2 (v0 : List (List PV)) (v1 : ByteArray) (v2 : Int) : runK br Try.prog (callK br Try.prog X48 M_R12_Find L_R12_Find (lsT []) 40) M_R12_Find (lsT [] 27 0) 40 0 (L_R12_Find 27) (bodyOf Try.prog 27 2) (sp_R12_Find_27_2.s.ts sp_R12_Find_27_2.n [.l v0, .s v1, .i v2]) (sp_R12_Find_27_2.s.h [.l v0, .s v1, .i v2]) (idc Try.prog 0 (L_R12_Find 27) 2) =
    (rd_R12_Find_27_2 [.l v0, .s v1, .i v2]).go br (fun us' => some (.normal, sp_R12_Find_27_2.s.ts sp_R12_Find_27_2.n us', sp_R12_Find_27_2.s.h us')) sp_R12_Find_27_2.fin := by
  rw [← callF_eq, ← runF_eq]; kernel_rfl
theorem lo_R12_Find_27_2 {R : Type} : LoopTells Try.prog X48 M_R12_Find L_R12_Find 0 (L_R12_Find 27) (bodyOf Try.prog 27 2) (gL (R := R) sp_R12_Find_27_2 rd_R12_Find_27_2 br) :=
  loopTold (callK_ev (loopsOK_list rids noneIn) 40) (lsokIn (loopsOK_list rids noneIn) 27 0 2) (by kernel_rfl) sp_R12_Find_27_2 rd_R12_Find_27_2 rfl (by kernel_rfl) (by
    intro us v h; unfold rd_R12_Find_27_2 at h; split at h
    · rename_i v0 v1 v2; exact rq_R12_Find_27_2 v0 v1 v2
    · cases h)
noncomputable abbrev ll_R12_Find_27_2 {R : Type} : List (Nat × Nat × Nat × Smy R) := (27, 0, 2, gL sp_R12_Find_27_2 rd_R12_Find_27_2 br) :: []
theorem lk_R12_Find_27_2 {R : Type} : ∀ e ∈ ll_R12_Find_27_2 (R := R), LoopTells Try.prog X48 M_R12_Find L_R12_Find e.2.1 (L_R12_Find e.1) (bodyOf Try.prog e.1 e.2.2.1) e.2.2.2 := List.forall_mem_cons.2 ⟨lo_R12_Find_27_2, noneIn⟩
def S_R12_Find : FSp := ⟨[.one (.l 90), .one (.s)], [], [168000000], [([.one (.l 83)], [])]⟩
noncomputable def m_R12_Find : List U → Rt
  | [.l v0, .s v1] =>
    (let r0 : Rs := (lres rd_R12_Find_27_2 [U.l v0, U.s v1, U.i (0 : Int)])
    (.test (ok r0 0)
    (.stop 0 [.l (uL (out r0 0) 0)])
    (.test (ok r0 1)
    (.stop 0 [.l []])
    .fail)))
  | _ => .fail
set_option maxRecDepth 100000 in
theorem q_R12_Find (v0 : List (List PV)) (v1 : ByteArray) : callK br Try.prog X48 M_R12_Find L_R12_Find (lsT ll_R12_Find_27_2) 60 27 (encs [.l v0, .s v1] 0 S_R12_Find.ap) (encH [.l v0, .s v1] (ws S_R12_Find.ap) S_R12_Find.ah) (fun y => fixR Try.prog S_R12_Find.plan S_R12_Find.ah.length y) =
    (m_R12_Find [.l v0, .s v1]).go br (fun _ => none) S_R12_Find.fin := by
  rw [← callF_eq]; kernel_rfl
theorem e_R12_Find : EOK Try.prog 27 (gF S_R12_Find m_R12_Find) :=
  eokTold mixed named x48 (loopsOK_list rids lk_R12_Find_27_2) 60 S_R12_Find m_R12_Find (by
    intro us v h; unfold m_R12_Find at h; split at h
    · rename_i v0 v1; exact q_R12_Find v0 v1
    · cases h) false
noncomputable abbrev X49 : Ext := extT [(27, (gF S_R12_Find m_R12_Find))] X48
theorem x49 : XOK Try.prog X49 := xok1 x48 e_R12_Find

/-- levee/leveeref05.Same -/
def L_R05_Same : FuncId → Nat → Option (List Nat) := liveT [(45, 4, [0, 1, 5]), (45, 1000004, []), (45, 2000004, [4])]
def M_R05_Same : FuncId → Bool := fun _ => false
noncomputable def rd_R05_Same_45_4 : List U → Rt
  | [.l v0, .l v1, .i v2] =>
    (.test (decide (v2 < ln v0))
    (.test (inR v2 (ln v0))
    (.test (inR v2 (ln v1))
    (.test (cI (el v0 v2) 1 != cI (el v1 v2) 1)
    (.stop 0 [.b false])
    (.test (inR v2 (ln v0))
    (.test (inR v2 (ln v1))
    (let r0 : Rs := (Rt.res (m_R02_Compare [U.l (cL (el v0 v2) 0), U.l (cL (el v1 v2) 0)]))
    (.test (ok r0 0)
    (.test (uI (out r0 0) 0 != (0 : Int))
    (.stop 0 [.b false])
    (.next [.l v0, .l v1, .i (w64 (v2 + (1 : Int)))]))
    .fail))
    .fail)
    .fail))
    .fail)
    .fail)
    (.stop 1 []))
  | _ => .fail
def sp_R05_Same_45_4 : LSp := ⟨42, ⟨[(0, .one (.l 83)), (1, .one (.l 83)), (5, .one (.i .i64))], []⟩, [(.ret, ⟨[(4, .one (.b))], []⟩), (.exit 0, ⟨[], []⟩)]⟩
set_option maxRecDepth 100000 in
theorem rq_R05_Same_45_4 (v0 : List (List PV)) (v1 : List (List PV)) (v2 : Int) : runK br Try.prog (callK br Try.prog X49 M_R05_Same L_R05_Same (lsT []) 40) M_R05_Same (lsT [] 45 0) 40 0 (L_R05_Same 45) (bodyOf Try.prog 45 4) (sp_R05_Same_45_4.s.ts sp_R05_Same_45_4.n [.l v0, .l v1, .i v2]) (sp_R05_Same_45_4.s.h [.l v0, .l v1, .i v2]) (idc Try.prog 0 (L_R05_Same 45) 4) =
    (rd_R05_Same_45_4 [.l v0, .l v1, .i v2]).go br (fun us' => some (.normal, sp_R05_Same_45_4.s.ts sp_R05_Same_45_4.n us', sp_R05_Same_45_4.s.h us')) sp_R05_Same_45_4.fin := by
  rw [← callF_eq, ← runF_eq]; kernel_rfl
theorem lo_R05_Same_45_4 {R : Type} : LoopTells Try.prog X49 M_R05_Same L_R05_Same 0 (L_R05_Same 45) (bodyOf Try.prog 45 4) (gL (R := R) sp_R05_Same_45_4 rd_R05_Same_45_4 br) :=
  loopTold (callK_ev (loopsOK_list rids noneIn) 40) (lsokIn (loopsOK_list rids noneIn) 45 0 4) (by kernel_rfl) sp_R05_Same_45_4 rd_R05_Same_45_4 rfl (by kernel_rfl) (by
    intro us v h; unfold rd_R05_Same_45_4 at h; split at h
    · rename_i v0 v1 v2; exact rq_R05_Same_45_4 v0 v1 v2
    · cases h)
noncomputable abbrev ll_R05_Same_45_4 {R : Type} : List (Nat × Nat × Nat × Smy R) := (45, 0, 4, gL sp_R05_Same_45_4 rd_R05_Same_45_4 br) :: []
theorem lk_R05_Same_45_4 {R : Type} : ∀ e ∈ ll_R05_Same_45_4 (R := R), LoopTells Try.prog X49 M_R05_Same L_R05_Same e.2.1 (L_R05_Same e.1) (bodyOf Try.prog e.1 e.2.2.1) e.2.2.2 := List.forall_mem_cons.2 ⟨lo_R05_Same_45_4, noneIn⟩
def S_R05_Same : FSp := ⟨[.one (.l 83), .one (.l 83)], [], [], [([.one (.b)], [])]⟩
noncomputable def m_R05_Same : List U → Rt
  | [.l v0, .l v1] =>
    (.test (ln v0 != ln v1)
    (.stop 0 [.b false])
    (let r0 : Rs := (lres rd_R05_Same_45_4 [U.l v0, U.l v1, U.i (0 : Int)])
    (.test (ok r0 0)
    (.stop 0 [.b (uB (out r0 0) 0)])
    (.test (ok r0 1)
    (.stop 0 [.b true])
    .fail))))
  | _ => .fail
set_option maxRecDepth 100000 in
theorem q_R05_Same (v0 : List (List PV)) (v1 : List (List PV)) : callK br Try.prog X49 M_R05_Same L_R05_Same (lsT ll_R05_Same_45_4) 60 45 (encs [.l v0, .l v1] 0 S_R05_Same.ap) (encH [.l v0, .l v1] (ws S_R05_Same.ap) S_R05_Same.ah) (fun y => fixR Try.prog S_R05_Same.plan S_R05_Same.ah.length y) =
    (m_R05_Same [.l v0, .l v1]).go br (fun _ => none) S_R05_Same.fin := by
  rw [← callF_eq]; kernel_rfl
theorem e_R05_Same : EOK Try.prog 45 (gF S_R05_Same m_R05_Same) :=
  eokTold mixed named x49 (loopsOK_list rids lk_R05_Same_45_4) 60 S_R05_Same m_R05_Same (by
    intro us v h; unfold m_R05_Same at h; split at h
    · rename_i v0 v1; exact q_R05_Same v0 v1
    · cases h) false
noncomputable abbrev X50 : Ext := extT [(45, (gF S_R05_Same m_R05_Same))] X49
theorem x50 : XOK Try.prog X50 := xok1 x49 e_R05_Same

/-- levee/leveeref20.Valid -/
def L_R20_Valid : FuncId → Nat → Option (List Nat) := liveT [(26, 2, [0, 1, 5, 7]), (26, 1000002, [0, 1, 5]), (26, 2000002, [6]), (26, 7, [0, 1, 5, 8]), (26, 1000007, [1, 5]), (26, 2000007, [6]), (26, 13, [1, 5, 10]), (26, 1000013, []), (26, 2000013, [6])]
def M_R20_Valid : FuncId → Bool := fun _ => false
noncomputable def rd_R20_Valid_26_2 : List U → Rt
  | [.l v0, .l v1, .i v2, .l v3, .l v4, .l v5] =>
    (.test (decide (v2 < ln v3))
    (.test (inR v2 (ln v3))
    (.test (inR v2 (ln v3))
    (let r0 : Rs := (Rt.res (m_R20_One [U.l v0, U.s (cS (el v3 v2) 0), U.i (cI (el v3 v2) 1), U.i (cI (el v3 v2) 2), U.s (cS (el v3 v2) 3)]))
    (.test (ok r0 0)
    (.test (inR v2 (ln v3))
    (.test (!(ByteArray.toList (uS (out r0 0) 0) == ByteArray.toList (cS (el v3 v2) 0) && (uI (out r0 0) 1 == cI (el v3 v2) 1 && (uI (out r0 0) 2 == cI (el v3 v2) 2 && (ByteArray.toList (uS (out r0 0) 3) == ByteArray.toList (cS (el v3 v2) 3) && true)) && (uI (out r0 0) 4 == cI (el v3 v2) 4 && true))))
    (.stop 0 [.b false])
    (.next [.l v0, .l v1, .i (w64 (v2 + (1 : Int))), .l v3, .l v4, .l v5]))
    .fail)
    .fail))
    .fail)
    .fail)
    (.stop 1 [.l v0, .l v1, .l v3, .l v4, .l v5]))
  | _ => .fail
def sp_R20_Valid_26_2 : LSp := ⟨84, ⟨[(0, .one (.l 40)), (1, .one (.l 90)), (5, .one (.ptr 0 0)), (7, .one (.i .i64))], [.box 29 [.one (.l 43), .one (.l 47), .one (.l 55)]]⟩, [(.ret, ⟨[(6, .one (.b))], []⟩), (.exit 0, ⟨[(0, .one (.l 40)), (1, .one (.l 90)), (5, .one (.ptr 0 0))], [.box 29 [.one (.l 43), .one (.l 47), .one (.l 55)]]⟩)]⟩
set_option maxRecDepth 100000 in
theorem rq_R20_Valid_26_2 (v0 : List (List PV)) (v1 : List (List PV)) (v2 : Int) (v3 : List (List PV)) (v4 : List (List PV)) (v5 : List (List PV)) : runK br Try.prog (callK br Try.prog X50 M_R20_Valid L_R20_Valid (lsT []) 40) M_R20_Valid (lsT [] 26 0) 40 0 (L_R20_Valid 26) (bodyOf Try.prog 26 2) (sp_R20_Valid_26_2.s.ts sp_R20_Valid_26_2.n [.l v0, .l v1, .i v2, .l v3, .l v4, .l v5]) (sp_R20_Valid_26_2.s.h [.l v0, .l v1, .i v2, .l v3, .l v4, .l v5]) (idc Try.prog 0 (L_R20_Valid 26) 2) =
    (rd_R20_Valid_26_2 [.l v0, .l v1, .i v2, .l v3, .l v4, .l v5]).go br (fun us' => some (.normal, sp_R20_Valid_26_2.s.ts sp_R20_Valid_26_2.n us', sp_R20_Valid_26_2.s.h us')) sp_R20_Valid_26_2.fin := by
  rw [← callF_eq, ← runF_eq]; kernel_rfl
theorem lo_R20_Valid_26_2 {R : Type} : LoopTells Try.prog X50 M_R20_Valid L_R20_Valid 0 (L_R20_Valid 26) (bodyOf Try.prog 26 2) (gL (R := R) sp_R20_Valid_26_2 rd_R20_Valid_26_2 br) :=
  loopTold (callK_ev (loopsOK_list rids noneIn) 40) (lsokIn (loopsOK_list rids noneIn) 26 0 2) (by kernel_rfl) sp_R20_Valid_26_2 rd_R20_Valid_26_2 rfl (by kernel_rfl) (by
    intro us v h; unfold rd_R20_Valid_26_2 at h; split at h
    · rename_i v0 v1 v2 v3 v4 v5; exact rq_R20_Valid_26_2 v0 v1 v2 v3 v4 v5
    · cases h)
noncomputable abbrev ll_R20_Valid_26_2 {R : Type} : List (Nat × Nat × Nat × Smy R) := (26, 0, 2, gL sp_R20_Valid_26_2 rd_R20_Valid_26_2 br) :: []
theorem lk_R20_Valid_26_2 {R : Type} : ∀ e ∈ ll_R20_Valid_26_2 (R := R), LoopTells Try.prog X50 M_R20_Valid L_R20_Valid e.2.1 (L_R20_Valid e.1) (bodyOf Try.prog e.1 e.2.2.1) e.2.2.2 := List.forall_mem_cons.2 ⟨lo_R20_Valid_26_2, noneIn⟩
noncomputable def rd_R20_Valid_26_7 : List U → Rt
  | [.l v0, .l v1, .i v2, .l v3, .l v4, .l v5] =>
    (.test (decide (v2 < ln v4))
    (.test (inR v2 (ln v4))
    (let r0 : Rs := (Rt.res (m_R20_Between [U.l v0, U.s (cS (el v4 v2) 0), U.i (cI (el v4 v2) 1), U.i (cI (el v4 v2) 2), U.s (cS (el v4 v2) 3), U.i (cI (el v4 v2) 4), U.i (cI (el v4 v2) 5), U.s (cS (el v4 v2) 6)]))
    (.test (ok r0 0)
    (let r1 : Rs := (Rt.res (m_R20_SameRange [U.s (uS (out r0 0) 0), U.i (uI (out r0 0) 1), U.i (uI (out r0 0) 2), U.s (uS (out r0 0) 3), U.i (uI (out r0 0) 4), U.i (uI (out r0 0) 5), U.s (uS (out r0 0) 6), U.l (uL (out r0 0) 7), U.s (cS (el v4 v2) 0), U.i (cI (el v4 v2) 1), U.i (cI (el v4 v2) 2), U.s (cS (el v4 v2) 3), U.i (cI (el v4 v2) 4), U.i (cI (el v4 v2) 5), U.s (cS (el v4 v2) 6), U.l (cL (el v4 v2) 7)]))
    (.test (ok r1 0)
    (.test (!uB (out r1 0) 0)
    (.stop 0 [.b false])
    (.next [.l v0, .l v1, .i (w64 (v2 + (1 : Int))), .l v3, .l v4, .l v5]))
    .fail))
    .fail))
    .fail)
    (.stop 1 [.l v1, .l v3, .l v4, .l v5]))
  | _ => .fail
def sp_R20_Valid_26_7 : LSp := ⟨84, ⟨[(0, .one (.l 40)), (1, .one (.l 90)), (5, .one (.ptr 0 0)), (8, .one (.i .i64))], [.box 29 [.one (.l 43), .one (.l 47), .one (.l 55)]]⟩, [(.ret, ⟨[(6, .one (.b))], []⟩), (.exit 2, ⟨[(1, .one (.l 90)), (5, .one (.ptr 0 0))], [.box 29 [.one (.l 43), .one (.l 47), .one (.l 55)]]⟩)]⟩
set_option maxRecDepth 100000 in
theorem rq_R20_Valid_26_7 (v0 : List (List PV)) (v1 : List (List PV)) (v2 : Int) (v3 : List (List PV)) (v4 : List (List PV)) (v5 : List (List PV)) : runK br Try.prog (callK br Try.prog X50 M_R20_Valid L_R20_Valid (lsT ll_R20_Valid_26_2) 40) M_R20_Valid (lsT ll_R20_Valid_26_2 26 0) 40 0 (L_R20_Valid 26) (bodyOf Try.prog 26 7) (sp_R20_Valid_26_7.s.ts sp_R20_Valid_26_7.n [.l v0, .l v1, .i v2, .l v3, .l v4, .l v5]) (sp_R20_Valid_26_7.s.h [.l v0, .l v1, .i v2, .l v3, .l v4, .l v5]) (idc Try.prog 0 (L_R20_Valid 26) 7) =
    (rd_R20_Valid_26_7 [.l v0, .l v1, .i v2, .l v3, .l v4, .l v5]).go br (fun us' => some (.normal, sp_R20_Valid_26_7.s.ts sp_R20_Valid_26_7.n us', sp_R20_Valid_26_7.s.h us')) sp_R20_Valid_26_7.fin := by
  rw [← callF_eq, ← runF_eq]; kernel_rfl
theorem lo_R20_Valid_26_7 {R : Type} : LoopTells Try.prog X50 M_R20_Valid L_R20_Valid 0 (L_R20_Valid 26) (bodyOf Try.prog 26 7) (gL (R := R) sp_R20_Valid_26_7 rd_R20_Valid_26_7 br) :=
  loopTold (callK_ev (loopsOK_list rids lk_R20_Valid_26_2) 40) (lsokIn (loopsOK_list rids lk_R20_Valid_26_2) 26 0 7) (by kernel_rfl) sp_R20_Valid_26_7 rd_R20_Valid_26_7 rfl (by kernel_rfl) (by
    intro us v h; unfold rd_R20_Valid_26_7 at h; split at h
    · rename_i v0 v1 v2 v3 v4 v5; exact rq_R20_Valid_26_7 v0 v1 v2 v3 v4 v5
    · cases h)
noncomputable abbrev ll_R20_Valid_26_7 {R : Type} : List (Nat × Nat × Nat × Smy R) := (26, 0, 7, gL sp_R20_Valid_26_7 rd_R20_Valid_26_7 br) :: ll_R20_Valid_26_2
theorem lk_R20_Valid_26_7 {R : Type} : ∀ e ∈ ll_R20_Valid_26_7 (R := R), LoopTells Try.prog X50 M_R20_Valid L_R20_Valid e.2.1 (L_R20_Valid e.1) (bodyOf Try.prog e.1 e.2.2.1) e.2.2.2 := List.forall_mem_cons.2 ⟨lo_R20_Valid_26_7, lk_R20_Valid_26_2⟩
noncomputable def rd_R20_Valid_26_13 : List U → Rt
  | [.l v0, .i v1, .l v2, .l v3, .l v4] =>
    (.test (decide (v1 < ln v4))
    (.test (inR v1 (ln v4))
    (let r0 : Rs := (Rt.res (m_R12_Find [U.l v0, U.s (cS (el v4 v1) 0)]))
    (.test (ok r0 0)
    (.test (inR v1 (ln v4))
    (let r1 : Rs := (Rt.res (m_R05_Same [U.l (uL (out r0 0) 0), U.l (cL (el v4 v1) 1)]))
    (.test (ok r1 0)
    (.test (!uB (out r1 0) 0)
    (.stop 0 [.b false])
    (.next [.l v0, .i (w64 (v1 + (1 : Int))), .l v2, .l v3, .l v4]))
    .fail))
    .fail)
    .fail))
    .fail)
    (.stop 1 []))
  | _ => .fail
def sp_R20_Valid_26_13 : LSp := ⟨84, ⟨[(1, .one (.l 90)), (5, .one (.ptr 0 0)), (10, .one (.i .i64))], [.box 29 [.one (.l 43), .one (.l 47), .one (.l 55)]]⟩, [(.ret, ⟨[(6, .one (.b))], []⟩), (.exit 4, ⟨[], []⟩)]⟩
set_option maxRecDepth 100000 in
theorem rq_R20_Valid_26_13 (v0 : List (List PV)) (v1 : Int) (v2 : List (List PV)) (v3 : List (List PV)) (v4 : List (List PV)) : runK br Try.prog (callK br Try.prog X50 M_R20_Valid L_R20_Valid (lsT ll_R20_Valid_26_7) 40) M_R20_Valid (lsT ll_R20_Valid_26_7 26 0) 40 0 (L_R20_Valid 26) (bodyOf Try.prog 26 13) (sp_R20_Valid_26_13.s.ts sp_R20_Valid_26_13.n [.l v0, .i v1, .l v2, .l v3, .l v4]) (sp_R20_Valid_26_13.s.h [.l v0, .i v1, .l v2, .l v3, .l v4]) (idc Try.prog 0 (L_R20_Valid 26) 13) =
    (rd_R20_Valid_26_13 [.l v0, .i v1, .l v2, .l v3, .l v4]).go br (fun us' => some (.normal, sp_R20_Valid_26_13.s.ts sp_R20_Valid_26_13.n us', sp_R20_Valid_26_13.s.h us')) sp_R20_Valid_26_13.fin := by
  rw [← callF_eq, ← runF_eq]; kernel_rfl
theorem lo_R20_Valid_26_13 {R : Type} : LoopTells Try.prog X50 M_R20_Valid L_R20_Valid 0 (L_R20_Valid 26) (bodyOf Try.prog 26 13) (gL (R := R) sp_R20_Valid_26_13 rd_R20_Valid_26_13 br) :=
  loopTold (callK_ev (loopsOK_list rids lk_R20_Valid_26_7) 40) (lsokIn (loopsOK_list rids lk_R20_Valid_26_7) 26 0 13) (by kernel_rfl) sp_R20_Valid_26_13 rd_R20_Valid_26_13 rfl (by kernel_rfl) (by
    intro us v h; unfold rd_R20_Valid_26_13 at h; split at h
    · rename_i v0 v1 v2 v3 v4; exact rq_R20_Valid_26_13 v0 v1 v2 v3 v4
    · cases h)
noncomputable abbrev ll_R20_Valid_26_13 {R : Type} : List (Nat × Nat × Nat × Smy R) := (26, 0, 13, gL sp_R20_Valid_26_13 rd_R20_Valid_26_13 br) :: ll_R20_Valid_26_7
theorem lk_R20_Valid_26_13 {R : Type} : ∀ e ∈ ll_R20_Valid_26_13 (R := R), LoopTells Try.prog X50 M_R20_Valid L_R20_Valid e.2.1 (L_R20_Valid e.1) (bodyOf Try.prog e.1 e.2.2.1) e.2.2.2 := List.forall_mem_cons.2 ⟨lo_R20_Valid_26_13, lk_R20_Valid_26_7⟩
def S_R20_Valid : FSp := ⟨[.one (.l 40), .one (.l 90), .agg [.l 43, .l 47, .l 55]], [], [], [([.one (.b)], [])]⟩
noncomputable def m_R20_Valid : List U → Rt
  | [.l v0, .l v1, .l v2, .l v3, .l v4] =>
    (let r0 : Rs := (lres rd_R20_Valid_26_2 [U.l v0, U.l v1, U.i (0 : Int), U.l v2, U.l v3, U.l v4])
    (.test (ok r0 0)
    (.stop 0 [.b (uB (out r0 0) 0)])
    (.test (ok r0 1)
    (let r1 : Rs := (lres rd_R20_Valid_26_7 [U.l (uL (out r0 1) 0), U.l (uL (out r0 1) 1), U.i (0 : Int), U.l (uL (out r0 1) 2), U.l (uL (out r0 1) 3), U.l (uL (out r0 1) 4)])
    (.test (ok r1 0)
    (.stop 0 [.b (uB (out r1 0) 0)])
    (.test (ok r1 1)
    (let r2 : Rs := (lres rd_R20_Valid_26_13 [U.l (uL (out r1 1) 0), U.i (0 : Int), U.l (uL (out r1 1) 1), U.l (uL (out r1 1) 2), U.l (uL (out r1 1) 3)])
    (.test (ok r2 0)
    (.stop 0 [.b (uB (out r2 0) 0)])
    (.test (ok r2 1)
    (.stop 0 [.b true])
    .fail)))
    .fail)))
    .fail)))
  | _ => .fail
set_option maxRecDepth 100000 in
theorem q_R20_Valid (v0 : List (List PV)) (v1 : List (List PV)) (v2 : List (List PV)) (v3 : List (List PV)) (v4 : List (List PV)) : callK br Try.prog X50 M_R20_Valid L_R20_Valid (lsT ll_R20_Valid_26_13) 60 26 (encs [.l v0, .l v1, .l v2, .l v3, .l v4] 0 S_R20_Valid.ap) (encH [.l v0, .l v1, .l v2, .l v3, .l v4] (ws S_R20_Valid.ap) S_R20_Valid.ah) (fun y => fixR Try.prog S_R20_Valid.plan S_R20_Valid.ah.length y) =
    (m_R20_Valid [.l v0, .l v1, .l v2, .l v3, .l v4]).go br (fun _ => none) S_R20_Valid.fin := by
  rw [← callF_eq]; kernel_rfl
theorem e_R20_Valid : EOK Try.prog 26 (gF S_R20_Valid m_R20_Valid) :=
  eokTold mixed named x50 (loopsOK_list rids lk_R20_Valid_26_13) 60 S_R20_Valid m_R20_Valid (by
    intro us v h; unfold m_R20_Valid at h; split at h
    · rename_i v0 v1 v2 v3 v4; exact q_R20_Valid v0 v1 v2 v3 v4
    · cases h) false
noncomputable abbrev X51 : Ext := extT [(26, (gF S_R20_Valid m_R20_Valid))] X50
theorem x51 : XOK Try.prog X51 := xok1 x50 e_R20_Valid

/-- levee/leveelaw20.ReadsTells -/
def L_L20_ReadsTells : FuncId → Nat → Option (List Nat) := liveT []
def M_L20_ReadsTells : FuncId → Bool := fun _ => false
def S_L20_ReadsTells : FSp := ⟨[.one (.l 40), .agg [.s, .i .i64, .i .i64, .s, .i .i64, .i .i64, .s, .l 43, .l 47, .l 55, .l 90]], [], [], [([.one (.b)], [])]⟩
noncomputable def m_L20_ReadsTells : List U → Rt
  | [.l v0, .s v1, .i v2, .i v3, .s v4, .i v5, .i v6, .s v7, .l v8, .l v9, .l v10, .l v11] =>
    (let r0 : Rs := (Rt.res (m_R20_Small [U.l v0]))
    (.test (ok r0 0)
    (.test (!uB (out r0 0) 0)
    (.stop 0 [.b true])
    (let r1 : Rs := (Rt.res (m_R20_Few [U.l v8, U.l v9, U.l v10]))
    (.test (ok r1 0)
    (.test (!uB (out r1 0) 0)
    (.stop 0 [.b true])
    (let r2 : Rs := (Rt.res (m_R12_Small [U.l v11]))
    (.test (ok r2 0)
    (.test (!uB (out r2 0) 0)
    (.stop 0 [.b true])
    (let r3 : Rs := (Rt.res (m_reads_Find [U.l v0, U.s v1]))
    (.test (ok r3 0)
    (let r4 : Rs := (Rt.res (m_R20_Find [U.l v0, U.s v1]))
    (.test (ok r4 0)
    (let r5 : Rs := (Rt.res (m_R16_Same [U.s (uS (out r3 0) 0), U.l (uL (out r3 0) 1), U.s (uS (out r4 0) 0), U.l (uL (out r4 0) 1)]))
    (.test (ok r5 0)
    (.test (!uB (out r5 0) 0)
    (.stop 0 [.b false])
    (let r6 : Rs := (Rt.res (m_reads_One [U.l v0, U.s v1, U.i v2, U.i v3, U.s v4]))
    (.test (ok r6 0)
    (let r7 : Rs := (Rt.res (m_R20_One [U.l v0, U.s v1, U.i v2, U.i v3, U.s v4]))
    (.test (ok r7 0)
    (.test (!(ByteArray.toList (uS (out r6 0) 0) == ByteArray.toList (uS (out r7 0) 0) && (uI (out r6 0) 1 == uI (out r7 0) 1 && (uI (out r6 0) 2 == uI (out r7 0) 2 && (ByteArray.toList (uS (out r6 0) 3) == ByteArray.toList (uS (out r7 0) 3) && true)) && (uI (out r6 0) 4 == uI (out r7 0) 4 && true))))
    (.stop 0 [.b false])
    (let r8 : Rs := (Rt.res (m_reads_Between [U.l v0, U.s v1, U.i v2, U.i v3, U.s v4, U.i v5, U.i v6, U.s v7]))
    (.test (ok r8 0)
    (let r9 : Rs := (Rt.res (m_R20_Between [U.l v0, U.s v1, U.i v2, U.i v3, U.s v4, U.i v5, U.i v6, U.s v7]))
    (.test (ok r9 0)
    (let r10 : Rs := (Rt.res (m_R20_SameRange [U.s (uS (out r8 0) 0), U.i (uI (out r8 0) 1), U.i (uI (out r8 0) 2), U.s (uS (out r8 0) 3), U.i (uI (out r8 0) 4), U.i (uI (out r8 0) 5), U.s (uS (out r8 0) 6), U.l (uL (out r8 0) 7), U.s (uS (out r9 0) 0), U.i (uI (out r9 0) 1), U.i (uI (out r9 0) 2), U.s (uS (out r9 0) 3), U.i (uI (out r9 0) 4), U.i (uI (out r9 0) 5), U.s (uS (out r9 0) 6), U.l (uL (out r9 0) 7)]))
    (.test (ok r10 0)
    (.test (uB (out r10 0) 0)
    (let r11 : Rs := (Rt.res (m_reads_Valid [U.l v0, U.l v11, U.l v8, U.l v9, U.l v10]))
    (.test (ok r11 0)
    (let r12 : Rs := (Rt.res (m_R20_Valid [U.l v0, U.l v11, U.l v8, U.l v9, U.l v10]))
    (.test (ok r12 0)
    (.stop 0 [.b (uB (out r11 0) 0 == uB (out r12 0) 0)])
    .fail))
    .fail))
    (.stop 0 [.b false]))
    .fail))
    .fail))
    .fail)))
    .fail))
    .fail)))
    .fail))
    .fail))
    .fail)))
    .fail)))
    .fail)))
    .fail))
  | _ => .fail
set_option maxRecDepth 100000 in
theorem q_L20_ReadsTells (v0 : List (List PV)) (v1 : ByteArray) (v2 : Int) (v3 : Int) (v4 : ByteArray) (v5 : Int) (v6 : Int) (v7 : ByteArray) (v8 : List (List PV)) (v9 : List (List PV)) (v10 : List (List PV)) (v11 : List (List PV)) : callK br Try.prog X51 M_L20_ReadsTells L_L20_ReadsTells (lsT []) 60 3 (encs [.l v0, .s v1, .i v2, .i v3, .s v4, .i v5, .i v6, .s v7, .l v8, .l v9, .l v10, .l v11] 0 S_L20_ReadsTells.ap) (encH [.l v0, .s v1, .i v2, .i v3, .s v4, .i v5, .i v6, .s v7, .l v8, .l v9, .l v10, .l v11] (ws S_L20_ReadsTells.ap) S_L20_ReadsTells.ah) (fun y => fixR Try.prog S_L20_ReadsTells.plan S_L20_ReadsTells.ah.length y) =
    (m_L20_ReadsTells [.l v0, .s v1, .i v2, .i v3, .s v4, .i v5, .i v6, .s v7, .l v8, .l v9, .l v10, .l v11]).go br (fun _ => none) S_L20_ReadsTells.fin := by
  rw [← callF_eq]; kernel_rfl
theorem e_L20_ReadsTells : EOK Try.prog 3 (gF S_L20_ReadsTells m_L20_ReadsTells) :=
  eokTold mixed named x51 (loopsOK_list rids noneIn) 60 S_L20_ReadsTells m_L20_ReadsTells (by
    intro us v h; unfold m_L20_ReadsTells at h; split at h
    · rename_i v0 v1 v2 v3 v4 v5 v6 v7 v8 v9 v10 v11; exact q_L20_ReadsTells v0 v1 v2 v3 v4 v5 v6 v7 v8 v9 v10 v11
    · cases h) false
noncomputable abbrev X52 : Ext := extT [(3, (gF S_L20_ReadsTells m_L20_ReadsTells))] X51
theorem x52 : XOK Try.prog X52 := xok1 x51 e_L20_ReadsTells

/-- levee/leveelaw20.ReadsNow -/
def L_L20_ReadsNow : FuncId → Nat → Option (List Nat) := liveT []
def M_L20_ReadsNow : FuncId → Bool := fun _ => false
def S_L20_ReadsNow : FSp := ⟨[.one (.l 40), .agg [.s, .i .i64, .i .i64, .s, .i .i64, .i .i64, .s, .l 43, .l 47, .l 55, .l 90]], [], [], [([.one (.b)], [])]⟩
noncomputable def m_L20_ReadsNow : List U → Rt
  | [.l v0, .s v1, .i v2, .i v3, .s v4, .i v5, .i v6, .s v7, .l v8, .l v9, .l v10, .l v11] =>
    (let r0 : Rs := (Rt.res (m_R20_Small [U.l v0]))
    (.test (ok r0 0)
    (.test (!uB (out r0 0) 0)
    (.stop 0 [.b true])
    (let r1 : Rs := (Rt.res (m_R20_Few [U.l v8, U.l v9, U.l v10]))
    (.test (ok r1 0)
    (.test (!uB (out r1 0) 0)
    (.stop 0 [.b true])
    (let r2 : Rs := (Rt.res (m_R12_Small [U.l v11]))
    (.test (ok r2 0)
    (.test (!uB (out r2 0) 0)
    (.stop 0 [.b true])
    (let r3 : Rs := (Rt.res (m_reads_One [U.l v0, U.s v1, U.i v2, U.i v3, U.s v4]))
    (.test (ok r3 0)
    (let r4 : Rs := (Rt.res (m_reads_Between [U.l v0, U.s v1, U.i v2, U.i v3, U.s v4, U.i v5, U.i v6, U.s v7]))
    (.test (ok r4 0)
    (let r5 : Rs := (Rt.res (m_R12_Find [U.l v11, U.s v1]))
    (.test (ok r5 0)
    (let r6 : Rs := (Rt.res (m_reads_Valid [U.l v0, U.l v11, U.l v8, U.l [], U.l []]))
    (.test (ok r6 0)
    (let r7 : Rs := (Rt.res (m_reads_Valid [U.l v0, U.l v11, U.l [], U.l v9, U.l v10]))
    (.test (ok r7 0)
    (let r8 : Rs := (Rt.res (m_reads_Valid [U.l v0, U.l v11, U.l [[pS (uS (out r3 0) 0), pI (uI (out r3 0) 1), pI (uI (out r3 0) 2), pS (uS (out r3 0) 3), pI (uI (out r3 0) 4)]], U.l [[pS (uS (out r4 0) 0), pI (uI (out r4 0) 1), pI (uI (out r4 0) 2), pS (uS (out r4 0) 3), pI (uI (out r4 0) 4), pI (uI (out r4 0) 5), pS (uS (out r4 0) 6), PV.lst 43 (uL (out r4 0) 7)]], U.l [[pS v1, PV.lst 83 (uL (out r5 0) 0)]]]))
    (.test (ok r8 0)
    (.test (uB (out r8 0) 0)
    (let r9 : Rs := (Rt.res (m_reads_Valid [U.l v0, U.l v11, U.l [], U.l [], U.l []]))
    (.test (ok r9 0)
    (.test (uB (out r9 0) 0)
    (let r10 : Rs := (Rt.res (m_reads_Valid [U.l v0, U.l v11, U.l v8, U.l v9, U.l v10]))
    (.test (ok r10 0)
    (.test (uB (out r6 0) 0)
    (.stop 0 [.b (uB (out r10 0) 0 == uB (out r7 0) 0)])
    (.stop 0 [.b (uB (out r10 0) 0 == false)]))
    .fail))
    (.stop 0 [.b false]))
    .fail))
    (.stop 0 [.b false]))
    .fail))
    .fail))
    .fail))
    .fail))
    .fail))
    .fail)))
    .fail)))
    .fail)))
    .fail))
  | _ => .fail
set_option maxRecDepth 100000 in
theorem q_L20_ReadsNow (v0 : List (List PV)) (v1 : ByteArray) (v2 : Int) (v3 : Int) (v4 : ByteArray) (v5 : Int) (v6 : Int) (v7 : ByteArray) (v8 : List (List PV)) (v9 : List (List PV)) (v10 : List (List PV)) (v11 : List (List PV)) : callK br Try.prog X52 M_L20_ReadsNow L_L20_ReadsNow (lsT []) 60 4 (encs [.l v0, .s v1, .i v2, .i v3, .s v4, .i v5, .i v6, .s v7, .l v8, .l v9, .l v10, .l v11] 0 S_L20_ReadsNow.ap) (encH [.l v0, .s v1, .i v2, .i v3, .s v4, .i v5, .i v6, .s v7, .l v8, .l v9, .l v10, .l v11] (ws S_L20_ReadsNow.ap) S_L20_ReadsNow.ah) (fun y => fixR Try.prog S_L20_ReadsNow.plan S_L20_ReadsNow.ah.length y) =
    (m_L20_ReadsNow [.l v0, .s v1, .i v2, .i v3, .s v4, .i v5, .i v6, .s v7, .l v8, .l v9, .l v10, .l v11]).go br (fun _ => none) S_L20_ReadsNow.fin := by
  rw [← callF_eq]; kernel_rfl
theorem e_L20_ReadsNow : EOK Try.prog 4 (gF S_L20_ReadsNow m_L20_ReadsNow) :=
  eokTold mixed named x52 (loopsOK_list rids noneIn) 60 S_L20_ReadsNow m_L20_ReadsNow (by
    intro us v h; unfold m_L20_ReadsNow at h; split at h
    · rename_i v0 v1 v2 v3 v4 v5 v6 v7 v8 v9 v10 v11; exact q_L20_ReadsNow v0 v1 v2 v3 v4 v5 v6 v7 v8 v9 v10 v11
    · cases h) false
noncomputable abbrev X53 : Ext := extT [(4, (gF S_L20_ReadsNow m_L20_ReadsNow))] X52
theorem x53 : XOK Try.prog X53 := xok1 x52 e_L20_ReadsNow

/-- levee/leveeref16.Put -/
def L_R16_Put : FuncId → Nat → Option (List Nat) := liveT [(31, 7, [1, 3, 6, 7, 8, 9, 10] ++ [2000119000008]), (31, 1000007, [6, 7, 8, 9]), (31, 2000007, [6])]
def M_R16_Put : FuncId → Bool := fun _ => false
noncomputable def rd_R16_Put_31_7 : List U → Rt
  | [.l v0, .b v1, .i v2, .s v3, .l v4, .s v5, .l v6, .i v7, .s v8, .l v9] =>
    (.test (decide (v2 < ln v4))
    (.test (inR v2 (ln v4))
    (.test (inR (0 : Int) (ln (cL (el v4 v2) 0)))
    (.test (inR (0 : Int) (ln v0))
    (let r0 : Rs := (Rt.res (m_R01_Compare [U.i (cI (List.getD (cL (el v4 v2) 0) 0 []) 0), U.i (cI (List.getD (cL (el v4 v2) 0) 0 []) 1), U.s (cS (List.getD (cL (el v4 v2) 0) 0 []) 2), U.i (cI (List.getD v0 0 []) 0), U.i (cI (List.getD v0 0 []) 1), U.s (cS (List.getD v0 0 []) 2)]))
    (.test (ok r0 0)
    (.test (decide (uI (out r0 0) 0 ≥ (0 : Int)))
    (.test (!v1)
    (.test (decide ((List.length v9 + 1) * 32 ≤ 140737488355328))
    (.test (uI (out r0 0) 0 != (0 : Int))
    (.test (inR v2 (ln v4))
    (.test (decide ((List.length (v9 ++ [[PV.lst 24 v6, pI v7]]) + 1) * 32 ≤ 140737488355328))
    (.next [.l v0, .b true, .i (w64 (v2 + (1 : Int))), .s v3, .l v4, .s v5, .l v6, .i v7, .s v8, .l (v9 ++ [[PV.lst 24 v6, pI v7]] ++ [[PV.lst 24 (cL (el v4 v2) 0), pI (cI (el v4 v2) 1)]])])
    .fail)
    .fail)
    (.next [.l v0, .b true, .i (w64 (v2 + (1 : Int))), .s v3, .l v4, .s v5, .l v6, .i v7, .s v8, .l (v9 ++ [[PV.lst 24 v6, pI v7]])]))
    .fail)
    (.test (uI (out r0 0) 0 != (0 : Int))
    (.test (inR v2 (ln v4))
    (.test (decide ((List.length v9 + 1) * 32 ≤ 140737488355328))
    (.next [.l v0, .b v1, .i (w64 (v2 + (1 : Int))), .s v3, .l v4, .s v5, .l v6, .i v7, .s v8, .l (v9 ++ [[PV.lst 24 (cL (el v4 v2) 0), pI (cI (el v4 v2) 1)]])])
    .fail)
    .fail)
    (.next [.l v0, .b v1, .i (w64 (v2 + (1 : Int))), .s v3, .l v4, .s v5, .l v6, .i v7, .s v8, .l v9])))
    (.test (uI (out r0 0) 0 != (0 : Int))
    (.test (inR v2 (ln v4))
    (.test (decide ((List.length v9 + 1) * 32 ≤ 140737488355328))
    (.next [.l v0, .b v1, .i (w64 (v2 + (1 : Int))), .s v3, .l v4, .s v5, .l v6, .i v7, .s v8, .l (v9 ++ [[PV.lst 24 (cL (el v4 v2) 0), pI (cI (el v4 v2) 1)]])])
    .fail)
    .fail)
    (.next [.l v0, .b v1, .i (w64 (v2 + (1 : Int))), .s v3, .l v4, .s v5, .l v6, .i v7, .s v8, .l v9])))
    .fail))
    .fail)
    .fail)
    .fail)
    (.stop 0 [.b v1, .s v5, .l v6, .i v7, .s v8, .l v9]))
  | _ => .fail
def sp_R16_Put_31_7 : LSp := ⟨79, ⟨[(1, .one (.l 24)), (3, .one (.ptr 0 0)), (6, .one (.ptr 1 0)), (7, .one (.ptr 2 0)), (8, .one (.ptr 3 0)), (9, .one (.b)), (10, .one (.i .i64))], [.box 40 [.one (.s), .one (.l 59)], .box 40 [.one (.s), .one (.nils)], .box 59 [.one (.l 24), .one (.i .i64)], .box 40 [.one (.s), .one (.all 4)], .arr 59 true]⟩, [(.exit 0, ⟨[(6, .one (.ptr 0 0)), (7, .one (.ptr 1 0)), (8, .one (.ptr 2 0)), (9, .one (.b))], [.box 40 [.one (.s), .one (.nils)], .box 59 [.one (.l 24), .one (.i .i64)], .box 40 [.one (.s), .one (.all 3)], .arr 59 true]⟩)]⟩
set_option maxRecDepth 100000 in
theorem rq_R16_Put_31_7 (v0 : List (List PV)) (v1 : Bool) (v2 : Int) (v3 : ByteArray) (v4 : List (List PV)) (v5 : ByteArray) (v6 : List (List PV)) (v7 : Int) (v8 : ByteArray) (v9 : List (List PV)) : runK br Try.prog (callK br Try.prog X53 M_R16_Put L_R16_Put (lsT []) 40) M_R16_Put (lsT [] 31 0) 40 0 (L_R16_Put 31) (bodyOf Try.prog 31 7) (sp_R16_Put_31_7.s.ts sp_R16_Put_31_7.n [.l v0, .b v1, .i v2, .s v3, .l v4, .s v5, .l v6, .i v7, .s v8, .l v9]) (sp_R16_Put_31_7.s.h [.l v0, .b v1, .i v2, .s v3, .l v4, .s v5, .l v6, .i v7, .s v8, .l v9]) (idc Try.prog 0 (L_R16_Put 31) 7) =
    (rd_R16_Put_31_7 [.l v0, .b v1, .i v2, .s v3, .l v4, .s v5, .l v6, .i v7, .s v8, .l v9]).go br (fun us' => some (.normal, sp_R16_Put_31_7.s.ts sp_R16_Put_31_7.n us', sp_R16_Put_31_7.s.h us')) sp_R16_Put_31_7.fin := by
  rw [← callF_eq, ← runF_eq]; kernel_rfl
theorem lo_R16_Put_31_7 {R : Type} : LoopTells Try.prog X53 M_R16_Put L_R16_Put 0 (L_R16_Put 31) (bodyOf Try.prog 31 7) (gL (R := R) sp_R16_Put_31_7 rd_R16_Put_31_7 br) :=
  loopTold (callK_ev (loopsOK_list rids noneIn) 40) (lsokIn (loopsOK_list rids noneIn) 31 0 7) (by kernel_rfl) sp_R16_Put_31_7 rd_R16_Put_31_7 rfl (by kernel_rfl) (by
    intro us v h; unfold rd_R16_Put_31_7 at h; split at h
    · rename_i v0 v1 v2 v3 v4 v5 v6 v7 v8 v9; exact rq_R16_Put_31_7 v0 v1 v2 v3 v4 v5 v6 v7 v8 v9
    · cases h)
noncomputable abbrev ll_R16_Put_31_7 {R : Type} : List (Nat × Nat × Nat × Smy R) := (31, 0, 7, gL sp_R16_Put_31_7 rd_R16_Put_31_7 br) :: []
theorem lk_R16_Put_31_7 {R : Type} : ∀ e ∈ ll_R16_Put_31_7 (R := R), LoopTells Try.prog X53 M_R16_Put L_R16_Put e.2.1 (L_R16_Put e.1) (bodyOf Try.prog e.1 e.2.2.1) e.2.2.2 := List.forall_mem_cons.2 ⟨lo_R16_Put_31_7, noneIn⟩
def S_R16_Put : FSp := ⟨[.agg [.s, .l 59], .one (.l 24), .one (.i .i64)], [], [2000119000000], [([.agg [.s, .all 0]], [.arr 59 true])]⟩
noncomputable def m_R16_Put : List U → Rt
  | [.s v0, .l v1, .l v2, .i v3] =>
    (let r0 : Rs := (Rt.res (m_R16_May [U.s v0, U.l v1]))
    (.test (ok r0 0)
    (.test (!uB (out r0 0) 0)
    (.stop 0 [.s ({ data := #[] }), .l []])
    (let r1 : Rs := (Rt.res (m_R16_Right [U.l v2, U.i v3]))
    (.test (ok r1 0)
    (.test (!uB (out r1 0) 0)
    (.stop 0 [.s ({ data := #[] }), .l []])
    (let r2 : Rs := (lres rd_R16_Put_31_7 [U.l v2, U.b false, U.i (0 : Int), U.s v0, U.l v1, U.s { data := #[] }, U.l v2, U.i v3, U.s v0, U.l []])
    (.test (ok r2 0)
    (.test (!uB (out r2 0) 0)
    (.test (decide ((List.length (uL (out r2 0) 5) + 1) * 32 ≤ 140737488355328))
    (.stop 0 [.s (uS (out r2 0) 4), .l (uL (out r2 0) 5 ++ [[PV.lst 24 (uL (out r2 0) 2), pI (uI (out r2 0) 3)]])])
    .fail)
    (.stop 0 [.s (uS (out r2 0) 4), .l (uL (out r2 0) 5)]))
    .fail)))
    .fail)))
    .fail))
  | _ => .fail
set_option maxRecDepth 100000 in
theorem q_R16_Put (v0 : ByteArray) (v1 : List (List PV)) (v2 : List (List PV)) (v3 : Int) : callK br Try.prog X53 M_R16_Put L_R16_Put (lsT ll_R16_Put_31_7) 60 31 (encs [.s v0, .l v1, .l v2, .i v3] 0 S_R16_Put.ap) (encH [.s v0, .l v1, .l v2, .i v3] (ws S_R16_Put.ap) S_R16_Put.ah) (fun y => fixR Try.prog S_R16_Put.plan S_R16_Put.ah.length y) =
    (m_R16_Put [.s v0, .l v1, .l v2, .i v3]).go br (fun _ => none) S_R16_Put.fin := by
  rw [← callF_eq]; kernel_rfl
theorem e_R16_Put : EOK Try.prog 31 (gF S_R16_Put m_R16_Put) :=
  eokTold mixed named x53 (loopsOK_list rids lk_R16_Put_31_7) 60 S_R16_Put m_R16_Put (by
    intro us v h; unfold m_R16_Put at h; split at h
    · rename_i v0 v1 v2 v3; exact q_R16_Put v0 v1 v2 v3
    · cases h) false
noncomputable abbrev X54 : Ext := extT [(31, (gF S_R16_Put m_R16_Put))] X53
theorem x54 : XOK Try.prog X54 := xok1 x53 e_R16_Put

/-- levee/leveelaw20.ReadsPhantoms -/
def L_L20_ReadsPhantoms : FuncId → Nat → Option (List Nat) := liveT []
def M_L20_ReadsPhantoms : FuncId → Bool := fun _ => false
def S_L20_ReadsPhantoms : FSp := ⟨[.agg [.s, .l 59], .agg [.l 24, .i .i64], .agg [.s, .i .i64, .i .i64, .s, .i .i64, .i .i64, .s, .l 43, .l 47, .l 55, .l 90]], [], [], [([.one (.b)], [])]⟩
noncomputable def m_L20_ReadsPhantoms : List U → Rt
  | [.s v0, .l v1, .l v2, .i v3, .s v4, .i v5, .i v6, .s v7, .i v8, .i v9, .s v10, .l v11, .l v12, .l v13, .l v14] =>
    (let r0 : Rs := (Rt.res (m_R16_Small [U.s v0, U.l v1]))
    (.test (ok r0 0)
    (.test (!uB (out r0 0) 0)
    (.stop 0 [.b true])
    (.test (decide (ln v1 > (20 : Int)))
    (.stop 0 [.b true])
    (let r1 : Rs := (Rt.res (m_R16_May [U.s v0, U.l v1]))
    (.test (ok r1 0)
    (.test (!uB (out r1 0) 0)
    (.stop 0 [.b true])
    (let r2 : Rs := (Rt.res (m_R16_Right [U.l v2, U.i v3]))
    (.test (ok r2 0)
    (.test (!uB (out r2 0) 0)
    (.stop 0 [.b true])
    (.test (decide (v3 < (1 : Int)))
    (.stop 0 [.b true])
    (.test (decide (ln v2 > (40 : Int)))
    (.stop 0 [.b true])
    (let r3 : Rs := (Rt.res (m_R16_Put [U.s v0, U.l v1, U.l v2, U.i v3]))
    (.test (ok r3 0)
    (.test (inR (0 : Int) (ln v2))
    (let r4 : Rs := (Rt.res (m_R16_Get [U.s v0, U.l v1, U.i (cI (List.getD v2 0 []) 0), U.i (cI (List.getD v2 0 []) 1), U.s (cS (List.getD v2 0 []) 2)]))
    (.test (ok r4 0)
    (.test (uB (out r4 0) 2)
    (.test (uI (out r4 0) 1 == v3)
    (.stop 0 [.b true])
    (let r5 : Rs := (Rt.res (m_R01_Compare [U.i v5, U.i v6, U.s v7, U.i (cI (List.getD v2 0 []) 0), U.i (cI (List.getD v2 0 []) 1), U.s (cS (List.getD v2 0 []) 2)]))
    (.test (ok r5 0)
    (.test (decide (uI (out r5 0) 0 ≤ (0 : Int)))
    (let r6 : Rs := (Rt.res (m_R01_Compare [U.i (cI (List.getD v2 0 []) 0), U.i (cI (List.getD v2 0 []) 1), U.s (cS (List.getD v2 0 []) 2), U.i v8, U.i v9, U.s v10]))
    (.test (ok r6 0)
    (let r7 : Rs := (Rt.res (m_reads_One [U.l [[pS v0, PV.lst 59 v1]], U.s v0, U.i v5, U.i v6, U.s v7]))
    (.test (ok r7 0)
    (let r8 : Rs := (Rt.res (m_reads_Between [U.l [[pS v0, PV.lst 59 v1]], U.s v0, U.i v5, U.i v6, U.s v7, U.i v8, U.i v9, U.s v10]))
    (.test (ok r8 0)
    (let r9 : Rs := (Rt.res (m_reads_Valid [U.l [[pS (uS (out r3 0) 0), PV.lst 59 (uL (out r3 0) 1)]], U.l [], U.l [[pS (uS (out r7 0) 0), pI (uI (out r7 0) 1), pI (uI (out r7 0) 2), pS (uS (out r7 0) 3), pI (uI (out r7 0) 4)]], U.l [], U.l []]))
    (.test (ok r9 0)
    (.test (uB (out r9 0) 0 == !(v5 == cI (List.getD v2 0 []) 0 && (v6 == cI (List.getD v2 0 []) 1 && (ByteArray.toList v7 == ByteArray.toList (cS (List.getD v2 0 []) 2) && true))))
    (let r10 : Rs := (Rt.res (m_reads_Valid [U.l [[pS (uS (out r3 0) 0), PV.lst 59 (uL (out r3 0) 1)]], U.l [], U.l [], U.l [[pS (uS (out r8 0) 0), pI (uI (out r8 0) 1), pI (uI (out r8 0) 2), pS (uS (out r8 0) 3), pI (uI (out r8 0) 4), pI (uI (out r8 0) 5), pS (uS (out r8 0) 6), PV.lst 43 (uL (out r8 0) 7)]], U.l []]))
    (.test (ok r10 0)
    (.stop 0 [.b (uB (out r10 0) 0 == !decide (uI (out r6 0) 0 < (0 : Int)))])
    .fail))
    (.stop 0 [.b false]))
    .fail))
    .fail))
    .fail))
    .fail))
    (let r11 : Rs := (Rt.res (m_reads_One [U.l [[pS v0, PV.lst 59 v1]], U.s v0, U.i v5, U.i v6, U.s v7]))
    (.test (ok r11 0)
    (let r12 : Rs := (Rt.res (m_reads_Between [U.l [[pS v0, PV.lst 59 v1]], U.s v0, U.i v5, U.i v6, U.s v7, U.i v8, U.i v9, U.s v10]))
    (.test (ok r12 0)
    (let r13 : Rs := (Rt.res (m_reads_Valid [U.l [[pS (uS (out r3 0) 0), PV.lst 59 (uL (out r3 0) 1)]], U.l [], U.l [[pS (uS (out r11 0) 0), pI (uI (out r11 0) 1), pI (uI (out r11 0) 2), pS (uS (out r11 0) 3), pI (uI (out r11 0) 4)]], U.l [], U.l []]))
    (.test (ok r13 0)
    (.test (uB (out r13 0) 0 == !(v5 == cI (List.getD v2 0 []) 0 && (v6 == cI (List.getD v2 0 []) 1 && (ByteArray.toList v7 == ByteArray.toList (cS (List.getD v2 0 []) 2) && true))))
    (let r14 : Rs := (Rt.res (m_reads_Valid [U.l [[pS (uS (out r3 0) 0), PV.lst 59 (uL (out r3 0) 1)]], U.l [], U.l [], U.l [[pS (uS (out r12 0) 0), pI (uI (out r12 0) 1), pI (uI (out r12 0) 2), pS (uS (out r12 0) 3), pI (uI (out r12 0) 4), pI (uI (out r12 0) 5), pS (uS (out r12 0) 6), PV.lst 43 (uL (out r12 0) 7)]], U.l []]))
    (.test (ok r14 0)
    (.stop 0 [.b (uB (out r14 0) 0 == true)])
    .fail))
    (.stop 0 [.b false]))
    .fail))
    .fail))
    .fail)))
    .fail)))
    (let r15 : Rs := (Rt.res (m_R01_Compare [U.i v5, U.i v6, U.s v7, U.i (cI (List.getD v2 0 []) 0), U.i (cI (List.getD v2 0 []) 1), U.s (cS (List.getD v2 0 []) 2)]))
    (.test (ok r15 0)
    (.test (decide (uI (out r15 0) 0 ≤ (0 : Int)))
    (let r16 : Rs := (Rt.res (m_R01_Compare [U.i (cI (List.getD v2 0 []) 0), U.i (cI (List.getD v2 0 []) 1), U.s (cS (List.getD v2 0 []) 2), U.i v8, U.i v9, U.s v10]))
    (.test (ok r16 0)
    (let r17 : Rs := (Rt.res (m_reads_One [U.l [[pS v0, PV.lst 59 v1]], U.s v0, U.i v5, U.i v6, U.s v7]))
    (.test (ok r17 0)
    (let r18 : Rs := (Rt.res (m_reads_Between [U.l [[pS v0, PV.lst 59 v1]], U.s v0, U.i v5, U.i v6, U.s v7, U.i v8, U.i v9, U.s v10]))
    (.test (ok r18 0)
    (let r19 : Rs := (Rt.res (m_reads_Valid [U.l [[pS (uS (out r3 0) 0), PV.lst 59 (uL (out r3 0) 1)]], U.l [], U.l [[pS (uS (out r17 0) 0), pI (uI (out r17 0) 1), pI (uI (out r17 0) 2), pS (uS (out r17 0) 3), pI (uI (out r17 0) 4)]], U.l [], U.l []]))
    (.test (ok r19 0)
    (.test (uB (out r19 0) 0 == !(v5 == cI (List.getD v2 0 []) 0 && (v6 == cI (List.getD v2 0 []) 1 && (ByteArray.toList v7 == ByteArray.toList (cS (List.getD v2 0 []) 2) && true))))
    (let r20 : Rs := (Rt.res (m_reads_Valid [U.l [[pS (uS (out r3 0) 0), PV.lst 59 (uL (out r3 0) 1)]], U.l [], U.l [], U.l [[pS (uS (out r18 0) 0), pI (uI (out r18 0) 1), pI (uI (out r18 0) 2), pS (uS (out r18 0) 3), pI (uI (out r18 0) 4), pI (uI (out r18 0) 5), pS (uS (out r18 0) 6), PV.lst 43 (uL (out r18 0) 7)]], U.l []]))
    (.test (ok r20 0)
    (.stop 0 [.b (uB (out r20 0) 0 == !decide (uI (out r16 0) 0 < (0 : Int)))])
    .fail))
    (.stop 0 [.b false]))
    .fail))
    .fail))
    .fail))
    .fail))
    (let r21 : Rs := (Rt.res (m_reads_One [U.l [[pS v0, PV.lst 59 v1]], U.s v0, U.i v5, U.i v6, U.s v7]))
    (.test (ok r21 0)
    (let r22 : Rs := (Rt.res (m_reads_Between [U.l [[pS v0, PV.lst 59 v1]], U.s v0, U.i v5, U.i v6, U.s v7, U.i v8, U.i v9, U.s v10]))
    (.test (ok r22 0)
    (let r23 : Rs := (Rt.res (m_reads_Valid [U.l [[pS (uS (out r3 0) 0), PV.lst 59 (uL (out r3 0) 1)]], U.l [], U.l [[pS (uS (out r21 0) 0), pI (uI (out r21 0) 1), pI (uI (out r21 0) 2), pS (uS (out r21 0) 3), pI (uI (out r21 0) 4)]], U.l [], U.l []]))
    (.test (ok r23 0)
    (.test (uB (out r23 0) 0 == !(v5 == cI (List.getD v2 0 []) 0 && (v6 == cI (List.getD v2 0 []) 1 && (ByteArray.toList v7 == ByteArray.toList (cS (List.getD v2 0 []) 2) && true))))
    (let r24 : Rs := (Rt.res (m_reads_Valid [U.l [[pS (uS (out r3 0) 0), PV.lst 59 (uL (out r3 0) 1)]], U.l [], U.l [], U.l [[pS (uS (out r22 0) 0), pI (uI (out r22 0) 1), pI (uI (out r22 0) 2), pS (uS (out r22 0) 3), pI (uI (out r22 0) 4), pI (uI (out r22 0) 5), pS (uS (out r22 0) 6), PV.lst 43 (uL (out r22 0) 7)]], U.l []]))
    (.test (ok r24 0)
    (.stop 0 [.b (uB (out r24 0) 0 == true)])
    .fail))
    (.stop 0 [.b false]))
    .fail))
    .fail))
    .fail)))
    .fail)))
    .fail))
    .fail)
    .fail)))))
    .fail)))
    .fail))))
    .fail))
  | _ => .fail
set_option maxRecDepth 100000 in
theorem q_L20_ReadsPhantoms (v0 : ByteArray) (v1 : List (List PV)) (v2 : List (List PV)) (v3 : Int) (v4 : ByteArray) (v5 : Int) (v6 : Int) (v7 : ByteArray) (v8 : Int) (v9 : Int) (v10 : ByteArray) (v11 : List (List PV)) (v12 : List (List PV)) (v13 : List (List PV)) (v14 : List (List PV)) : callK br Try.prog X54 M_L20_ReadsPhantoms L_L20_ReadsPhantoms (lsT []) 60 5 (encs [.s v0, .l v1, .l v2, .i v3, .s v4, .i v5, .i v6, .s v7, .i v8, .i v9, .s v10, .l v11, .l v12, .l v13, .l v14] 0 S_L20_ReadsPhantoms.ap) (encH [.s v0, .l v1, .l v2, .i v3, .s v4, .i v5, .i v6, .s v7, .i v8, .i v9, .s v10, .l v11, .l v12, .l v13, .l v14] (ws S_L20_ReadsPhantoms.ap) S_L20_ReadsPhantoms.ah) (fun y => fixR Try.prog S_L20_ReadsPhantoms.plan S_L20_ReadsPhantoms.ah.length y) =
    (m_L20_ReadsPhantoms [.s v0, .l v1, .l v2, .i v3, .s v4, .i v5, .i v6, .s v7, .i v8, .i v9, .s v10, .l v11, .l v12, .l v13, .l v14]).go br (fun _ => none) S_L20_ReadsPhantoms.fin := by
  rw [← callF_eq]; kernel_rfl
theorem e_L20_ReadsPhantoms : EOK Try.prog 5 (gF S_L20_ReadsPhantoms m_L20_ReadsPhantoms) :=
  eokTold mixed named x54 (loopsOK_list rids noneIn) 60 S_L20_ReadsPhantoms m_L20_ReadsPhantoms (by
    intro us v h; unfold m_L20_ReadsPhantoms at h; split at h
    · rename_i v0 v1 v2 v3 v4 v5 v6 v7 v8 v9 v10 v11 v12 v13 v14; exact q_L20_ReadsPhantoms v0 v1 v2 v3 v4 v5 v6 v7 v8 v9 v10 v11 v12 v13 v14
    · cases h) false
noncomputable abbrev X55 : Ext := extT [(5, (gF S_L20_ReadsPhantoms m_L20_ReadsPhantoms))] X54
theorem x55 : XOK Try.prog X55 := xok1 x54 e_L20_ReadsPhantoms

/-- levee/leveelaw20.ReadsMore -/
def L_L20_ReadsMore : FuncId → Nat → Option (List Nat) := liveT []
def M_L20_ReadsMore : FuncId → Bool := fun _ => false
def S_L20_ReadsMore : FSp := ⟨[.one (.l 40), .agg [.s, .i .i64, .i .i64, .s, .i .i64, .i .i64, .s, .l 43, .l 47, .l 55, .l 90], .one (.i .i64)], [], [], [([.one (.b)], [])]⟩
noncomputable def m_L20_ReadsMore : List U → Rt
  | [.l v0, .s v1, .i v2, .i v3, .s v4, .i v5, .i v6, .s v7, .l v8, .l v9, .l v10, .l v11, .i v12] =>
    (let r0 : Rs := (Rt.res (m_R20_Small [U.l v0]))
    (.test (ok r0 0)
    (.test (!uB (out r0 0) 0)
    (.stop 0 [.b true])
    (let r1 : Rs := (Rt.res (m_R20_Few [U.l v8, U.l v9, U.l v10]))
    (.test (ok r1 0)
    (.test (!uB (out r1 0) 0)
    (.stop 0 [.b true])
    (let r2 : Rs := (Rt.res (m_R12_Small [U.l v11]))
    (.test (ok r2 0)
    (.test (!uB (out r2 0) 0)
    (.stop 0 [.b true])
    (let r3 : Rs := (Rt.res (m_reads_One [U.l v0, U.s v1, U.i v2, U.i v3, U.s v4]))
    (.test (ok r3 0)
    (.test (decide ((0 + List.length v8) * 56 ≤ 140737488355328))
    (.test (decide ((List.length v8 + 1) * 56 ≤ 140737488355328))
    (let r4 : Rs := (Rt.res (m_reads_Valid [U.l v0, U.l v11, U.l (v8 ++ [[pS (uS (out r3 0) 0), pI (uI (out r3 0) 1), pI (uI (out r3 0) 2), pS (uS (out r3 0) 3), pI v12]]), U.l v9, U.l v10]))
    (.test (ok r4 0)
    (.test (v12 == uI (out r3 0) 4)
    (let r5 : Rs := (Rt.res (m_reads_Valid [U.l v0, U.l v11, U.l v8, U.l v9, U.l v10]))
    (.test (ok r5 0)
    (.stop 0 [.b (uB (out r4 0) 0 == uB (out r5 0) 0)])
    .fail))
    (.stop 0 [.b (uB (out r4 0) 0 == false)]))
    .fail))
    .fail)
    .fail)
    .fail)))
    .fail)))
    .fail)))
    .fail))
  | _ => .fail
set_option maxRecDepth 100000 in
theorem q_L20_ReadsMore (v0 : List (List PV)) (v1 : ByteArray) (v2 : Int) (v3 : Int) (v4 : ByteArray) (v5 : Int) (v6 : Int) (v7 : ByteArray) (v8 : List (List PV)) (v9 : List (List PV)) (v10 : List (List PV)) (v11 : List (List PV)) (v12 : Int) : callK br Try.prog X55 M_L20_ReadsMore L_L20_ReadsMore (lsT []) 60 6 (encs [.l v0, .s v1, .i v2, .i v3, .s v4, .i v5, .i v6, .s v7, .l v8, .l v9, .l v10, .l v11, .i v12] 0 S_L20_ReadsMore.ap) (encH [.l v0, .s v1, .i v2, .i v3, .s v4, .i v5, .i v6, .s v7, .l v8, .l v9, .l v10, .l v11, .i v12] (ws S_L20_ReadsMore.ap) S_L20_ReadsMore.ah) (fun y => fixR Try.prog S_L20_ReadsMore.plan S_L20_ReadsMore.ah.length y) =
    (m_L20_ReadsMore [.l v0, .s v1, .i v2, .i v3, .s v4, .i v5, .i v6, .s v7, .l v8, .l v9, .l v10, .l v11, .i v12]).go br (fun _ => none) S_L20_ReadsMore.fin := by
  rw [← callF_eq]; kernel_rfl
theorem e_L20_ReadsMore : EOK Try.prog 6 (gF S_L20_ReadsMore m_L20_ReadsMore) :=
  eokTold mixed named x55 (loopsOK_list rids noneIn) 60 S_L20_ReadsMore m_L20_ReadsMore (by
    intro us v h; unfold m_L20_ReadsMore at h; split at h
    · rename_i v0 v1 v2 v3 v4 v5 v6 v7 v8 v9 v10 v11 v12; exact q_L20_ReadsMore v0 v1 v2 v3 v4 v5 v6 v7 v8 v9 v10 v11 v12
    · cases h) false
noncomputable abbrev X56 : Ext := extT [(6, (gF S_L20_ReadsMore m_L20_ReadsMore))] X55
theorem x56 : XOK Try.prog X56 := xok1 x55 e_L20_ReadsMore

/-- levee/leveeref16.Cut -/
def L_R16_Cut : FuncId → Nat → Option (List Nat) := liveT [(34, 6, [2, 3, 4, 8, 9] ++ [2000119000008]), (34, 1000006, [4, 8]), (34, 2000006, [4, 5])]
def M_R16_Cut : FuncId → Bool := fun _ => false
noncomputable def rd_R16_Cut_34_6 : List U → Rt
  | [.i v0, .s v1, .l v2, .i v3, .i v4, .s v5, .s v6, .s v7, .l v8] =>
    (.test (decide (v0 < ln v2))
    (.test (inR v0 (ln v2))
    (.test (inR (0 : Int) (ln (cL (el v2 v0) 0)))
    (.test (!(cI (List.getD (cL (el v2 v0) 0) 0 []) 0 == v3 && (cI (List.getD (cL (el v2 v0) 0) 0 []) 1 == v4 && (ByteArray.toList (cS (List.getD (cL (el v2 v0) 0) 0 []) 2) == ByteArray.toList v5 && true))))
    (.test (inR v0 (ln v2))
    (.test (decide ((List.length v8 + 1) * 32 ≤ 140737488355328))
    (.next [.i (w64 (v0 + (1 : Int))), .s v1, .l v2, .i v3, .i v4, .s v5, .s v6, .s v7, .l (v8 ++ [[PV.lst 24 (cL (el v2 v0) 0), pI (cI (el v2 v0) 1)]])])
    .fail)
    .fail)
    (.next [.i (w64 (v0 + (1 : Int))), .s v1, .l v2, .i v3, .i v4, .s v5, .s v6, .s v7, .l v8]))
    .fail)
    .fail)
    (.stop 0 [.s v6, .s v7, .l v8]))
  | _ => .fail
def sp_R16_Cut_34_6 : LSp := ⟨50, ⟨[(2, .one (.ptr 0 0)), (3, .one (.ptr 1 0)), (4, .one (.ptr 2 0)), (8, .one (.ptr 3 0)), (9, .one (.i .i64))], [.box 40 [.one (.s), .one (.l 59)], .box 24 [.one (.i .i64), .one (.i .i64), .one (.s)], .box 40 [.one (.s), .one (.nils)], .box 40 [.one (.s), .one (.all 4)], .arr 59 true]⟩, [(.exit 0, ⟨[(4, .one (.ptr 0 0)), (8, .one (.ptr 1 0))], [.box 40 [.one (.s), .one (.nils)], .box 40 [.one (.s), .one (.all 2)], .arr 59 true]⟩)]⟩
set_option maxRecDepth 100000 in
theorem rq_R16_Cut_34_6 (v0 : Int) (v1 : ByteArray) (v2 : List (List PV)) (v3 : Int) (v4 : Int) (v5 : ByteArray) (v6 : ByteArray) (v7 : ByteArray) (v8 : List (List PV)) : runK br Try.prog (callK br Try.prog X56 M_R16_Cut L_R16_Cut (lsT []) 40) M_R16_Cut (lsT [] 34 0) 40 0 (L_R16_Cut 34) (bodyOf Try.prog 34 6) (sp_R16_Cut_34_6.s.ts sp_R16_Cut_34_6.n [.i v0, .s v1, .l v2, .i v3, .i v4, .s v5, .s v6, .s v7, .l v8]) (sp_R16_Cut_34_6.s.h [.i v0, .s v1, .l v2, .i v3, .i v4, .s v5, .s v6, .s v7, .l v8]) (idc Try.prog 0 (L_R16_Cut 34) 6) =
    (rd_R16_Cut_34_6 [.i v0, .s v1, .l v2, .i v3, .i v4, .s v5, .s v6, .s v7, .l v8]).go br (fun us' => some (.normal, sp_R16_Cut_34_6.s.ts sp_R16_Cut_34_6.n us', sp_R16_Cut_34_6.s.h us')) sp_R16_Cut_34_6.fin := by
  rw [← callF_eq, ← runF_eq]; kernel_rfl
theorem lo_R16_Cut_34_6 {R : Type} : LoopTells Try.prog X56 M_R16_Cut L_R16_Cut 0 (L_R16_Cut 34) (bodyOf Try.prog 34 6) (gL (R := R) sp_R16_Cut_34_6 rd_R16_Cut_34_6 br) :=
  loopTold (callK_ev (loopsOK_list rids noneIn) 40) (lsokIn (loopsOK_list rids noneIn) 34 0 6) (by kernel_rfl) sp_R16_Cut_34_6 rd_R16_Cut_34_6 rfl (by kernel_rfl) (by
    intro us v h; unfold rd_R16_Cut_34_6 at h; split at h
    · rename_i v0 v1 v2 v3 v4 v5 v6 v7 v8; exact rq_R16_Cut_34_6 v0 v1 v2 v3 v4 v5 v6 v7 v8
    · cases h)
noncomputable abbrev ll_R16_Cut_34_6 {R : Type} : List (Nat × Nat × Nat × Smy R) := (34, 0, 6, gL sp_R16_Cut_34_6 rd_R16_Cut_34_6 br) :: []
theorem lk_R16_Cut_34_6 {R : Type} : ∀ e ∈ ll_R16_Cut_34_6 (R := R), LoopTells Try.prog X56 M_R16_Cut L_R16_Cut e.2.1 (L_R16_Cut e.1) (bodyOf Try.prog e.1 e.2.2.1) e.2.2.2 := List.forall_mem_cons.2 ⟨lo_R16_Cut_34_6, noneIn⟩
def S_R16_Cut : FSp := ⟨[.agg [.s, .l 59], .agg [.i .i64, .i .i64, .s]], [], [2000119000000], [([.agg [.s, .all 0], .one (.b)], [.arr 59 true])]⟩
noncomputable def m_R16_Cut : List U → Rt
  | [.s v0, .l v1, .i v2, .i v3, .s v4] =>
    (let r0 : Rs := (Rt.res (m_R16_Get [U.s v0, U.l v1, U.i v2, U.i v3, U.s v4]))
    (.test (ok r0 0)
    (.test (!uB (out r0 0) 2)
    (.stop 0 [.s ({ data := #[] }), .b false, .l []])
    (let r1 : Rs := (lres rd_R16_Cut_34_6 [U.i (0 : Int), U.s v0, U.l v1, U.i v2, U.i v3, U.s v4, U.s { data := #[] }, U.s v0, U.l []])
    (.test (ok r1 0)
    (.stop 0 [.s (uS (out r1 0) 1), .b true, .l (uL (out r1 0) 2)])
    .fail)))
    .fail))
  | _ => .fail
set_option maxRecDepth 100000 in
theorem q_R16_Cut (v0 : ByteArray) (v1 : List (List PV)) (v2 : Int) (v3 : Int) (v4 : ByteArray) : callK br Try.prog X56 M_R16_Cut L_R16_Cut (lsT ll_R16_Cut_34_6) 60 34 (encs [.s v0, .l v1, .i v2, .i v3, .s v4] 0 S_R16_Cut.ap) (encH [.s v0, .l v1, .i v2, .i v3, .s v4] (ws S_R16_Cut.ap) S_R16_Cut.ah) (fun y => fixR Try.prog S_R16_Cut.plan S_R16_Cut.ah.length y) =
    (m_R16_Cut [.s v0, .l v1, .i v2, .i v3, .s v4]).go br (fun _ => none) S_R16_Cut.fin := by
  rw [← callF_eq]; kernel_rfl
theorem e_R16_Cut : EOK Try.prog 34 (gF S_R16_Cut m_R16_Cut) :=
  eokTold mixed named x56 (loopsOK_list rids lk_R16_Cut_34_6) 60 S_R16_Cut m_R16_Cut (by
    intro us v h; unfold m_R16_Cut at h; split at h
    · rename_i v0 v1 v2 v3 v4; exact q_R16_Cut v0 v1 v2 v3 v4
    · cases h) false
noncomputable abbrev X57 : Ext := extT [(34, (gF S_R16_Cut m_R16_Cut))] X56
theorem x57 : XOK Try.prog X57 := xok1 x56 e_R16_Cut

/-- levee/leveelaw20.ReadsCut -/
def L_L20_ReadsCut : FuncId → Nat → Option (List Nat) := liveT []
def M_L20_ReadsCut : FuncId → Bool := fun _ => false
def S_L20_ReadsCut : FSp := ⟨[.agg [.s, .l 59], .agg [.s, .i .i64, .i .i64, .s, .i .i64, .i .i64, .s, .l 43, .l 47, .l 55, .l 90]], [], [], [([.one (.b)], [])]⟩
noncomputable def m_L20_ReadsCut : List U → Rt
  | [.s v0, .l v1, .s v2, .i v3, .i v4, .s v5, .i v6, .i v7, .s v8, .l v9, .l v10, .l v11, .l v12] =>
    (let r0 : Rs := (Rt.res (m_R16_Small [U.s v0, U.l v1]))
    (.test (ok r0 0)
    (.test (!uB (out r0 0) 0)
    (.stop 0 [.b true])
    (.test (decide (ln v1 > (20 : Int)))
    (.stop 0 [.b true])
    (let r1 : Rs := (Rt.res (m_R16_May [U.s v0, U.l v1]))
    (.test (ok r1 0)
    (.test (!uB (out r1 0) 0)
    (.stop 0 [.b true])
    (let r2 : Rs := (Rt.res (m_R16_Cut [U.s v0, U.l v1, U.i v3, U.i v4, U.s v5]))
    (.test (ok r2 0)
    (.test (!uB (out r2 0) 1)
    (.stop 0 [.b true])
    (let r3 : Rs := (Rt.res (m_reads_Between [U.l [[pS v0, PV.lst 59 v1]], U.s v0, U.i v3, U.i v4, U.s v5, U.i v6, U.i v7, U.s v8]))
    (.test (ok r3 0)
    (let r4 : Rs := (Rt.res (m_reads_Between [U.l [[pS (uS (out r2 0) 0), PV.lst 59 (uL (out r2 0) 2)]], U.s v0, U.i v3, U.i v4, U.s v5, U.i v6, U.i v7, U.s v8]))
    (.test (ok r4 0)
    (let r5 : Rs := (Rt.res (m_reads_One [U.l [[pS (uS (out r2 0) 0), PV.lst 59 (uL (out r2 0) 2)]], U.s v0, U.i v3, U.i v4, U.s v5]))
    (.test (ok r5 0)
    (let r6 : Rs := (Rt.res (m_R01_Compare [U.i v3, U.i v4, U.s v5, U.i v6, U.i v7, U.s v8]))
    (.test (ok r6 0)
    (.test (decide (uI (out r6 0) 0 ≥ (0 : Int)))
    (.test (uI (out r5 0) 4 == (0 : Int))
    (.stop 0 [.b (w64 (ln (uL (out r3 0) 7) + ln (uL (out r4 0) 7)) == (0 : Int))])
    (.stop 0 [.b false]))
    (.test (uI (out r5 0) 4 == (0 : Int))
    (.test (decide (ln (uL (out r3 0) 7) > (0 : Int)))
    (.test (decide ((0 : Int) ≤ (1 : Int) ∧ (1 : Int) ≤ ln (uL (out r3 0) 7) ∧ ln (uL (out r3 0) 7) ≤ ln (uL (out r3 0) 7)))
    (.test (decide (1 + (Int.toNat (ln (uL (out r3 0) 7)) - 1) ≤ List.length (uL (out r3 0) 7)))
    (let r7 : Rs := (Rt.res (m_R20_SameReads [U.l (List.take (Int.toNat (ln (uL (out r3 0) 7)) - 1) (List.drop 1 (uL (out r3 0) 7))), U.l (uL (out r4 0) 7)]))
    (.test (ok r7 0)
    (.stop 0 [.b (uB (out r7 0) 0)])
    .fail))
    .fail)
    .fail)
    (.stop 0 [.b false]))
    (.stop 0 [.b false])))
    .fail))
    .fail))
    .fail))
    .fail)))
    .fail)))
    .fail))))
    .fail))
  | _ => .fail
set_option maxRecDepth 100000 in
theorem q_L20_ReadsCut (v0 : ByteArray) (v1 : List (List PV)) (v2 : ByteArray) (v3 : Int) (v4 : Int) (v5 : ByteArray) (v6 : Int) (v7 : Int) (v8 : ByteArray) (v9 : List (List PV)) (v10 : List (List PV)) (v11 : List (List PV)) (v12 : List (List PV)) : callK br Try.prog X57 M_L20_ReadsCut L_L20_ReadsCut (lsT []) 60 7 (encs [.s v0, .l v1, .s v2, .i v3, .i v4, .s v5, .i v6, .i v7, .s v8, .l v9, .l v10, .l v11, .l v12] 0 S_L20_ReadsCut.ap) (encH [.s v0, .l v1, .s v2, .i v3, .i v4, .s v5, .i v6, .i v7, .s v8, .l v9, .l v10, .l v11, .l v12] (ws S_L20_ReadsCut.ap) S_L20_ReadsCut.ah) (fun y => fixR Try.prog S_L20_ReadsCut.plan S_L20_ReadsCut.ah.length y) =
    (m_L20_ReadsCut [.s v0, .l v1, .s v2, .i v3, .i v4, .s v5, .i v6, .i v7, .s v8, .l v9, .l v10, .l v11, .l v12]).go br (fun _ => none) S_L20_ReadsCut.fin := by
  rw [← callF_eq]; kernel_rfl
theorem e_L20_ReadsCut : EOK Try.prog 7 (gF S_L20_ReadsCut m_L20_ReadsCut) :=
  eokTold mixed named x57 (loopsOK_list rids noneIn) 60 S_L20_ReadsCut m_L20_ReadsCut (by
    intro us v h; unfold m_L20_ReadsCut at h; split at h
    · rename_i v0 v1 v2 v3 v4 v5 v6 v7 v8 v9 v10 v11 v12; exact q_L20_ReadsCut v0 v1 v2 v3 v4 v5 v6 v7 v8 v9 v10 v11 v12
    · cases h) false
noncomputable abbrev X58 : Ext := extT [(7, (gF S_L20_ReadsCut m_L20_ReadsCut))] X57
theorem x58 : XOK Try.prog X58 := xok1 x57 e_L20_ReadsCut

end Go.Proofs.Ytfjjionebffekaa
