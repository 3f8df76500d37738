/- Texts of this seat, one behind the other. -/
import Derived.Test.YtccgmaeflmbmlaaDoorGX
import Derived.Test.YtccgmaeflmbmlaaDoorTE
set_option linter.unusedVariables false
namespace Go.Proofs.YtccgmaeflmbmlaaDoor
open Go Go.Pu

/-- levee/key.Compare -/
def L_key_Compare : FuncId → Nat → Option (List Nat) := liveT [(94, 2, [0, 1, 2, 11, 12, 13]), (94, 1000002, [0, 1]), (94, 2000002, [6])]
def M_key_Compare : FuncId → Bool := fun _ => false
noncomputable def rd_key_Compare_94_2 : List U → Rt
  | [.l v0, .l v1, .l v2, .i v3, .i v4] =>
    (.test (decide (v4 < v3))
    (.test (inR v4 (ln v2))
    (.test (decide (v4 ≥ ln v1))
    (.stop 0 [.i ((1 : Int))])
    (.test (inR v4 (ln v1))
    (let r0 : Rs := (Rt.res (m_value_Compare [U.i (cI (el v2 v4) 0), U.i (cI (el v2 v4) 1), U.s (cS (el v2 v4) 2), U.i (cI (el v1 v4) 0), U.i (cI (el v1 v4) 1), U.s (cS (el v1 v4) 2)]))
    (.test (ok r0 0)
    (.test (uI (out r0 0) 0 != (0 : Int))
    (.stop 0 [.i (uI (out r0 0) 0)])
    (.next [.l v0, .l v1, .l v2, .i v3, .i (w64 (v4 + (1 : Int)))]))
    .fail))
    .fail))
    .fail)
    (.stop 1 [.l v0, .l v1]))
  | _ => .fail
def sp_key_Compare_94_2 : LSp := ⟨39, ⟨[(0, .one (.l 25)), (1, .one (.l 25)), (2, .fn 23 []), (11, .one (.l 25)), (12, .one (.i .i64)), (13, .one (.i .i64))], []⟩, [(.ret, ⟨[(6, .one (.i .i64))], []⟩), (.exit 0, ⟨[(0, .one (.l 25)), (1, .one (.l 25))], []⟩)]⟩
set_option maxRecDepth 100000 in
theorem rq_key_Compare_94_2 (v0 : List (List PV)) (v1 : List (List PV)) (v2 : List (List PV)) (v3 : Int) (v4 : Int) : runK br Tryd.prog (callK br Tryd.prog XH M_key_Compare L_key_Compare (lsT []) 40) M_key_Compare (lsT [] 94 0) 40 0 (L_key_Compare 94) (bodyOf Tryd.prog 94 2) (sp_key_Compare_94_2.s.ts sp_key_Compare_94_2.n [.l v0, .l v1, .l v2, .i v3, .i v4]) (sp_key_Compare_94_2.s.h [.l v0, .l v1, .l v2, .i v3, .i v4]) (idc Tryd.prog 0 (L_key_Compare 94) 2) =
    (rd_key_Compare_94_2 [.l v0, .l v1, .l v2, .i v3, .i v4]).go br (fun us' => some (.normal, sp_key_Compare_94_2.s.ts sp_key_Compare_94_2.n us', sp_key_Compare_94_2.s.h us')) sp_key_Compare_94_2.fin := by
  rw [← callF_eq, ← runF_eq]; kernel_rfl
theorem lo_key_Compare_94_2 {R : Type} : LoopTells Tryd.prog XH M_key_Compare L_key_Compare 0 (L_key_Compare 94) (bodyOf Tryd.prog 94 2) (gL (R := R) sp_key_Compare_94_2 rd_key_Compare_94_2 br) :=
  loopTold (callK_ev (loopsOK_list rids noneIn) 40) (lsokIn (loopsOK_list rids noneIn) 94 0 2) (by kernel_rfl) sp_key_Compare_94_2 rd_key_Compare_94_2 rfl (by kernel_rfl) (by
    intro us v h; unfold rd_key_Compare_94_2 at h; split at h
    · rename_i v0 v1 v2 v3 v4; exact rq_key_Compare_94_2 v0 v1 v2 v3 v4
    · cases h)
noncomputable abbrev ll_key_Compare_94_2 {R : Type} : List (Nat × Nat × Nat × Smy R) := (94, 0, 2, gL sp_key_Compare_94_2 rd_key_Compare_94_2 br) :: []
theorem lk_key_Compare_94_2 {R : Type} : ∀ e ∈ ll_key_Compare_94_2 (R := R), LoopTells Tryd.prog XH M_key_Compare L_key_Compare e.2.1 (L_key_Compare e.1) (bodyOf Tryd.prog e.1 e.2.2.1) e.2.2.2 := List.forall_mem_cons.2 ⟨lo_key_Compare_94_2, noneIn⟩
def S_key_Compare : FSp := ⟨[.one (.l 25), .one (.l 25)], [], [], [([.one (.i .i64)], [])]⟩
noncomputable def m_key_Compare : List U → Rt
  | [.l v0, .l v1] =>
    (let r0 : Rs := (lres rd_key_Compare_94_2 [U.l v0, U.l v1, U.l v0, U.i (ln v0), U.i (0 : Int)])
    (.test (ok r0 0)
    (.stop 0 [.i (uI (out r0 0) 0)])
    (.test (ok r0 1)
    (.test (decide (ln (uL (out r0 1) 0) < ln (uL (out r0 1) 1)))
    (.stop 0 [.i ((-1 : Int))])
    (.stop 0 [.i ((0 : Int))]))
    .fail)))
  | _ => .fail
set_option maxRecDepth 100000 in
theorem q_key_Compare (v0 : List (List PV)) (v1 : List (List PV)) : callK br Tryd.prog XH M_key_Compare L_key_Compare (lsT ll_key_Compare_94_2) 60 79 (encs [.l v0, .l v1] 0 S_key_Compare.ap) (encH [.l v0, .l v1] (ws S_key_Compare.ap) S_key_Compare.ah) (fun y => fixR Tryd.prog S_key_Compare.plan S_key_Compare.ah.length y) =
    (m_key_Compare [.l v0, .l v1]).go br (fun _ => none) S_key_Compare.fin := by
  rw [← callF_eq]; kernel_rfl
theorem e_key_Compare : EOK Tryd.prog 79 (gF S_key_Compare m_key_Compare) :=
  eokTold mixed named xH (loopsOK_list rids lk_key_Compare_94_2) 60 S_key_Compare m_key_Compare (by
    intro us v h; unfold m_key_Compare at h; split at h
    · rename_i v0 v1; exact q_key_Compare v0 v1
    · cases h) false
noncomputable abbrev X101 : Ext := extT [(79, (gF S_key_Compare m_key_Compare))] XH
theorem x101 : XOK Tryd.prog X101 := xok1 xH e_key_Compare

/-- levee/row.Compare -/
def L_row_Compare : FuncId → Nat → Option (List Nat) := liveT []
def M_row_Compare : FuncId → Bool := fun _ => false
def S_row_Compare : FSp := ⟨[.one (.l 25), .one (.l 25)], [], [], [([.one (.i .i64)], [])]⟩
noncomputable def m_row_Compare : List U → Rt
  | [.l v0, .l v1] =>
    (let r0 : Rs := (Rt.res (m_key_Compare [U.l v0, U.l v1]))
    (.test (ok r0 0)
    (.stop 0 [.i (uI (out r0 0) 0)])
    .fail))
  | _ => .fail
set_option maxRecDepth 100000 in
theorem q_row_Compare (v0 : List (List PV)) (v1 : List (List PV)) : callK br Tryd.prog X101 M_row_Compare L_row_Compare (lsT []) 60 63 (encs [.l v0, .l v1] 0 S_row_Compare.ap) (encH [.l v0, .l v1] (ws S_row_Compare.ap) S_row_Compare.ah) (fun y => fixR Tryd.prog S_row_Compare.plan S_row_Compare.ah.length y) =
    (m_row_Compare [.l v0, .l v1]).go br (fun _ => none) S_row_Compare.fin := by
  rw [← callF_eq]; kernel_rfl
theorem e_row_Compare : EOK Tryd.prog 63 (gF S_row_Compare m_row_Compare) :=
  eokTold mixed named x101 (loopsOK_list rids noneIn) 60 S_row_Compare m_row_Compare (by
    intro us v h; unfold m_row_Compare at h; split at h
    · rename_i v0 v1; exact q_row_Compare v0 v1
    · cases h) false
noncomputable abbrev X102 : Ext := extT [(63, (gF S_row_Compare m_row_Compare))] X101
theorem x102 : XOK Tryd.prog X102 := xok1 x101 e_row_Compare

/-- levee/row.Pick -/
def L_row_Pick : FuncId → Nat → Option (List Nat) := liveT [(37, 3, [0, 51000006, 9, 10, 11]), (37, 1000003, [6]), (37, 2000003, [4, 5])]
def M_row_Pick : FuncId → Bool := fun _ => false
noncomputable def rd_row_Pick_37_3 : List U → Rt
  | [.l v0, .l v1, .i v2, .i v3, .l v4] =>
    (.test (decide (v3 < v2))
    (.test (inR v3 (ln v1))
    (.test (decide (cI (el v1 v3) 0 < (0 : Int)))
    (.stop 0 [.b false])
    (.test (decide (cI (el v1 v3) 0 ≥ ln v0))
    (.stop 0 [.b false])
    (.test (inR (cI (el v1 v3) 0) (ln v0))
    (.test (decide ((List.length v4 + 1) * 32 ≤ 140737488355328))
    (.next [.l v0, .l v1, .i v2, .i (w64 (v3 + (1 : Int))), .l (v4 ++ [[pI (cI (el v0 (cI (el v1 v3) 0)) 0), pI (cI (el v0 (cI (el v1 v3) 0)) 1), pS (cS (el v0 (cI (el v1 v3) 0)) 2)]])])
    .fail)
    .fail)))
    .fail)
    (.stop 1 [.l v4]))
  | _ => .fail
def sp_row_Pick_37_3 : LSp := ⟨32, ⟨[(0, .one (.l 25)), (6, .one (.all 0)), (9, .one (.l 3)), (10, .one (.i .i64)), (11, .one (.i .i64))], [.arr 25 true]⟩, [(.ret, ⟨[(4, .one (.nils)), (5, .one (.b))], []⟩), (.exit 0, ⟨[(6, .one (.all 0))], [.arr 25 true]⟩)]⟩
set_option maxRecDepth 100000 in
theorem rq_row_Pick_37_3 (v0 : List (List PV)) (v1 : List (List PV)) (v2 : Int) (v3 : Int) (v4 : List (List PV)) : runK br Tryd.prog (callK br Tryd.prog X102 M_row_Pick L_row_Pick (lsT []) 40) M_row_Pick (lsT [] 37 0) 40 0 (L_row_Pick 37) (bodyOf Tryd.prog 37 3) (sp_row_Pick_37_3.s.ts sp_row_Pick_37_3.n [.l v0, .l v1, .i v2, .i v3, .l v4]) (sp_row_Pick_37_3.s.h [.l v0, .l v1, .i v2, .i v3, .l v4]) (idc Tryd.prog 0 (L_row_Pick 37) 3) =
    (rd_row_Pick_37_3 [.l v0, .l v1, .i v2, .i v3, .l v4]).go br (fun us' => some (.normal, sp_row_Pick_37_3.s.ts sp_row_Pick_37_3.n us', sp_row_Pick_37_3.s.h us')) sp_row_Pick_37_3.fin := by
  rw [← callF_eq, ← runF_eq]; kernel_rfl
theorem lo_row_Pick_37_3 {R : Type} : LoopTells Tryd.prog X102 M_row_Pick L_row_Pick 0 (L_row_Pick 37) (bodyOf Tryd.prog 37 3) (gL (R := R) sp_row_Pick_37_3 rd_row_Pick_37_3 br) :=
  loopTold (callK_ev (loopsOK_list rids noneIn) 40) (lsokIn (loopsOK_list rids noneIn) 37 0 3) (by kernel_rfl) sp_row_Pick_37_3 rd_row_Pick_37_3 rfl (by kernel_rfl) (by
    intro us v h; unfold rd_row_Pick_37_3 at h; split at h
    · rename_i v0 v1 v2 v3 v4; exact rq_row_Pick_37_3 v0 v1 v2 v3 v4
    · cases h)
noncomputable abbrev ll_row_Pick_37_3 {R : Type} : List (Nat × Nat × Nat × Smy R) := (37, 0, 3, gL sp_row_Pick_37_3 rd_row_Pick_37_3 br) :: []
theorem lk_row_Pick_37_3 {R : Type} : ∀ e ∈ ll_row_Pick_37_3 (R := R), LoopTells Tryd.prog X102 M_row_Pick L_row_Pick e.2.1 (L_row_Pick e.1) (bodyOf Tryd.prog e.1 e.2.2.1) e.2.2.2 := List.forall_mem_cons.2 ⟨lo_row_Pick_37_3, noneIn⟩
def S_row_Pick : FSp := ⟨[.one (.l 25), .one (.l 3)], [], [51000000], [([.one (.all 0), .one (.b)], [.arr 25 true])]⟩
noncomputable def m_row_Pick : List U → Rt
  | [.l v0, .l v1] =>
    (let r0 : Rs := (lres rd_row_Pick_37_3 [U.l v0, U.l v1, U.i (ln v1), U.i (0 : Int), U.l []])
    (.test (ok r0 0)
    (.stop 0 [.b (uB (out r0 0) 0), .l []])
    (.test (ok r0 1)
    (.stop 0 [.b true, .l (uL (out r0 1) 0)])
    .fail)))
  | _ => .fail
set_option maxRecDepth 100000 in
theorem q_row_Pick (v0 : List (List PV)) (v1 : List (List PV)) : callK br Tryd.prog X102 M_row_Pick L_row_Pick (lsT ll_row_Pick_37_3) 60 37 (encs [.l v0, .l v1] 0 S_row_Pick.ap) (encH [.l v0, .l v1] (ws S_row_Pick.ap) S_row_Pick.ah) (fun y => fixR Tryd.prog S_row_Pick.plan S_row_Pick.ah.length y) =
    (m_row_Pick [.l v0, .l v1]).go br (fun _ => none) S_row_Pick.fin := by
  rw [← callF_eq]; kernel_rfl
theorem e_row_Pick : EOK Tryd.prog 37 (gF S_row_Pick m_row_Pick) :=
  eokTold mixed named x102 (loopsOK_list rids lk_row_Pick_37_3) 60 S_row_Pick m_row_Pick (by
    intro us v h; unfold m_row_Pick at h; split at h
    · rename_i v0 v1; exact q_row_Pick v0 v1
    · cases h) false
noncomputable abbrev X103 : Ext := extT [(37, (gF S_row_Pick m_row_Pick))] X102
theorem x103 : XOK Tryd.prog X103 := xok1 x102 e_row_Pick

/-- levee/row.Text -/
def L_row_Text : FuncId → Nat → Option (List Nat) := liveT [(42, 3, [19000003, 6, 7, 8]), (42, 1000003, [3]), (42, 2000003, [2])]
def M_row_Text : FuncId → Bool := fun _ => false
noncomputable def rd_row_Text_42_3 : List U → Rt
  | [.l v0, .i v1, .i v2, .l v3] =>
    (.test (decide (v2 < v1))
    (.test (inR v2 (ln v0))
    (let r0 : Rs := (Rt.res (m_value_Text [U.i (cI (el v0 v2) 0), U.i (cI (el v0 v2) 1), U.s (cS (el v0 v2) 2)]))
    (.test (ok r0 0)
    (.test (decide ((List.length v3 + 1) * 16 ≤ 140737488355328))
    (.next [.l v0, .i v1, .i (w64 (v2 + (1 : Int))), .l (v3 ++ [[pS (uS (out r0 0) 0)]])])
    .fail)
    .fail))
    .fail)
    (.stop 0 [.l v3]))
  | _ => .fail
def sp_row_Text_42_3 : LSp := ⟨22, ⟨[(3, .one (.all 0)), (6, .one (.l 25)), (7, .one (.i .i64)), (8, .one (.i .i64))], [.arr 9 true]⟩, [(.exit 0, ⟨[(3, .one (.all 0))], [.arr 9 true]⟩)]⟩
set_option maxRecDepth 100000 in
theorem rq_row_Text_42_3 (v0 : List (List PV)) (v1 : Int) (v2 : Int) (v3 : List (List PV)) : runK br Tryd.prog (callK br Tryd.prog X103 M_row_Text L_row_Text (lsT []) 40) M_row_Text (lsT [] 42 0) 40 0 (L_row_Text 42) (bodyOf Tryd.prog 42 3) (sp_row_Text_42_3.s.ts sp_row_Text_42_3.n [.l v0, .i v1, .i v2, .l v3]) (sp_row_Text_42_3.s.h [.l v0, .i v1, .i v2, .l v3]) (idc Tryd.prog 0 (L_row_Text 42) 3) =
    (rd_row_Text_42_3 [.l v0, .i v1, .i v2, .l v3]).go br (fun us' => some (.normal, sp_row_Text_42_3.s.ts sp_row_Text_42_3.n us', sp_row_Text_42_3.s.h us')) sp_row_Text_42_3.fin := by
  rw [← callF_eq, ← runF_eq]; kernel_rfl
theorem lo_row_Text_42_3 {R : Type} : LoopTells Tryd.prog X103 M_row_Text L_row_Text 0 (L_row_Text 42) (bodyOf Tryd.prog 42 3) (gL (R := R) sp_row_Text_42_3 rd_row_Text_42_3 br) :=
  loopTold (callK_ev (loopsOK_list rids noneIn) 40) (lsokIn (loopsOK_list rids noneIn) 42 0 3) (by kernel_rfl) sp_row_Text_42_3 rd_row_Text_42_3 rfl (by kernel_rfl) (by
    intro us v h; unfold rd_row_Text_42_3 at h; split at h
    · rename_i v0 v1 v2 v3; exact rq_row_Text_42_3 v0 v1 v2 v3
    · cases h)
noncomputable abbrev ll_row_Text_42_3 {R : Type} : List (Nat × Nat × Nat × Smy R) := (42, 0, 3, gL sp_row_Text_42_3 rd_row_Text_42_3 br) :: []
theorem lk_row_Text_42_3 {R : Type} : ∀ e ∈ ll_row_Text_42_3 (R := R), LoopTells Tryd.prog X103 M_row_Text L_row_Text e.2.1 (L_row_Text e.1) (bodyOf Tryd.prog e.1 e.2.2.1) e.2.2.2 := List.forall_mem_cons.2 ⟨lo_row_Text_42_3, noneIn⟩
def S_row_Text : FSp := ⟨[.one (.l 25)], [], [], [([.one (.s)], [])]⟩
noncomputable def m_row_Text : List U → Rt
  | [.l v0] =>
    (let r0 : Rs := (lres rd_row_Text_42_3 [U.l v0, U.i (ln v0), U.i (0 : Int), U.l []])
    (.test (ok r0 0)
    (.test (joinOk (uL (out r0 0) 0) { data := #[(44 : UInt8), (32 : UInt8)] })
    (.test (decide (1 + ByteArray.size (joinB (uL (out r0 0) 0) { data := #[(44 : UInt8), (32 : UInt8)] }) ≤ 9223372036854775807))
    (.test (decide (ByteArray.size ({ data := #[(40 : UInt8)] } ++ joinB (uL (out r0 0) 0) { data := #[(44 : UInt8), (32 : UInt8)] }) + 1 ≤ 9223372036854775807))
    (.stop 0 [.s ({ data := #[(40 : UInt8)] } ++ joinB (uL (out r0 0) 0) { data := #[(44 : UInt8), (32 : UInt8)] } ++ { data := #[(41 : UInt8)] })])
    .fail)
    .fail)
    .fail)
    .fail))
  | _ => .fail
set_option maxRecDepth 100000 in
theorem q_row_Text (v0 : List (List PV)) : callK br Tryd.prog X103 M_row_Text L_row_Text (lsT ll_row_Text_42_3) 60 42 (encs [.l v0] 0 S_row_Text.ap) (encH [.l v0] (ws S_row_Text.ap) S_row_Text.ah) (fun y => fixR Tryd.prog S_row_Text.plan S_row_Text.ah.length y) =
    (m_row_Text [.l v0]).go br (fun _ => none) S_row_Text.fin := by
  rw [← callF_eq]; kernel_rfl
theorem e_row_Text : EOK Tryd.prog 42 (gF S_row_Text m_row_Text) :=
  eokTold mixed named x103 (loopsOK_list rids lk_row_Text_42_3) 60 S_row_Text m_row_Text (by
    intro us v h; unfold m_row_Text at h; split at h
    · rename_i v0; exact q_row_Text v0
    · cases h) false
noncomputable abbrev X104 : Ext := extT [(42, (gF S_row_Text m_row_Text))] X103
theorem x104 : XOK Tryd.prog X104 := xok1 x103 e_row_Text

/-- levee/leveeref01.Compare -/
def L_R01_Compare : FuncId → Nat → Option (List Nat) := liveT []
def M_R01_Compare : FuncId → Bool := fun _ => false
def S_R01_Compare : FSp := ⟨[.agg [.i .i64, .i .i64, .s], .agg [.i .i64, .i .i64, .s]], [], [], [([.one (.i .i64)], [])]⟩
noncomputable def m_R01_Compare : List U → Rt
  | [.i v0, .i v1, .s v2, .i v3, .i v4, .s v5] =>
    (.test (v0 != v3)
    (.test (decide (v0 < v3))
    (.stop 0 [.i ((-1 : Int))])
    (.stop 0 [.i ((1 : Int))]))
    (.test (v1 != v4)
    (.test (decide (v1 < v4))
    (.stop 0 [.i ((-1 : Int))])
    (.stop 0 [.i ((1 : Int))]))
    (.test (Op.bytesLess (ByteArray.toList v2) (ByteArray.toList v5))
    (.stop 0 [.i ((-1 : Int))])
    (.test (!(Op.bytesLess (ByteArray.toList v2) (ByteArray.toList v5) || ByteArray.toList v2 == ByteArray.toList v5))
    (.stop 0 [.i ((1 : Int))])
    (.stop 0 [.i ((0 : Int))])))))
  | _ => .fail
set_option maxRecDepth 100000 in
theorem q_R01_Compare (v0 : Int) (v1 : Int) (v2 : ByteArray) (v3 : Int) (v4 : Int) (v5 : ByteArray) : callK br Tryd.prog X104 M_R01_Compare L_R01_Compare (lsT []) 60 64 (encs [.i v0, .i v1, .s v2, .i v3, .i v4, .s v5] 0 S_R01_Compare.ap) (encH [.i v0, .i v1, .s v2, .i v3, .i v4, .s v5] (ws S_R01_Compare.ap) S_R01_Compare.ah) (fun y => fixR Tryd.prog S_R01_Compare.plan S_R01_Compare.ah.length y) =
    (m_R01_Compare [.i v0, .i v1, .s v2, .i v3, .i v4, .s v5]).go br (fun _ => none) S_R01_Compare.fin := by
  rw [← callF_eq]; kernel_rfl
theorem e_R01_Compare : EOK Tryd.prog 64 (gF S_R01_Compare m_R01_Compare) :=
  eokTold mixed named x104 (loopsOK_list rids noneIn) 60 S_R01_Compare m_R01_Compare (by
    intro us v h; unfold m_R01_Compare at h; split at h
    · rename_i v0 v1 v2 v3 v4 v5; exact q_R01_Compare v0 v1 v2 v3 v4 v5
    · cases h) false
noncomputable abbrev X105 : Ext := extT [(64, (gF S_R01_Compare m_R01_Compare))] X104
theorem x105 : XOK Tryd.prog X105 := xok1 x104 e_R01_Compare

/-- levee/leveeref02.Compare -/
def L_R02_Compare : FuncId → Nat → Option (List Nat) := liveT [(33, 2, [0, 1, 5]), (33, 1000002, [0, 1]), (33, 2000002, [4])]
def M_R02_Compare : FuncId → Bool := fun _ => false
noncomputable def rd_R02_Compare_33_2 : List U → Rt
  | [.l v0, .l v1, .i v2] =>
    (.test (decide (v2 < ln v0))
    (.test (decide (v2 < ln v1))
    (.test (inR v2 (ln v0))
    (.test (inR v2 (ln v1))
    (let r0 : Rs := (Rt.res (m_R01_Compare [U.i (cI (el v0 v2) 0), U.i (cI (el v0 v2) 1), U.s (cS (el v0 v2) 2), U.i (cI (el v1 v2) 0), U.i (cI (el v1 v2) 1), U.s (cS (el v1 v2) 2)]))
    (.test (ok r0 0)
    (.test (uI (out r0 0) 0 != (0 : Int))
    (.stop 0 [.i (uI (out r0 0) 0)])
    (.next [.l v0, .l v1, .i (w64 (v2 + (1 : Int)))]))
    .fail))
    .fail)
    .fail)
    (.stop 1 [.l v0, .l v1]))
    (.stop 1 [.l v0, .l v1]))
  | _ => .fail
def sp_R02_Compare_33_2 : LSp := ⟨41, ⟨[(0, .one (.l 25)), (1, .one (.l 25)), (5, .one (.i .i64))], []⟩, [(.ret, ⟨[(4, .one (.i .i64))], []⟩), (.exit 0, ⟨[(0, .one (.l 25)), (1, .one (.l 25))], []⟩)]⟩
set_option maxRecDepth 100000 in
theorem rq_R02_Compare_33_2 (v0 : List (List PV)) (v1 : List (List PV)) (v2 : Int) : runK br Tryd.prog (callK br Tryd.prog X105 M_R02_Compare L_R02_Compare (lsT []) 40) M_R02_Compare (lsT [] 33 0) 40 0 (L_R02_Compare 33) (bodyOf Tryd.prog 33 2) (sp_R02_Compare_33_2.s.ts sp_R02_Compare_33_2.n [.l v0, .l v1, .i v2]) (sp_R02_Compare_33_2.s.h [.l v0, .l v1, .i v2]) (idc Tryd.prog 0 (L_R02_Compare 33) 2) =
    (rd_R02_Compare_33_2 [.l v0, .l v1, .i v2]).go br (fun us' => some (.normal, sp_R02_Compare_33_2.s.ts sp_R02_Compare_33_2.n us', sp_R02_Compare_33_2.s.h us')) sp_R02_Compare_33_2.fin := by
  rw [← callF_eq, ← runF_eq]; kernel_rfl
theorem lo_R02_Compare_33_2 {R : Type} : LoopTells Tryd.prog X105 M_R02_Compare L_R02_Compare 0 (L_R02_Compare 33) (bodyOf Tryd.prog 33 2) (gL (R := R) sp_R02_Compare_33_2 rd_R02_Compare_33_2 br) :=
  loopTold (callK_ev (loopsOK_list rids noneIn) 40) (lsokIn (loopsOK_list rids noneIn) 33 0 2) (by kernel_rfl) sp_R02_Compare_33_2 rd_R02_Compare_33_2 rfl (by kernel_rfl) (by
    intro us v h; unfold rd_R02_Compare_33_2 at h; split at h
    · rename_i v0 v1 v2; exact rq_R02_Compare_33_2 v0 v1 v2
    · cases h)
noncomputable abbrev ll_R02_Compare_33_2 {R : Type} : List (Nat × Nat × Nat × Smy R) := (33, 0, 2, gL sp_R02_Compare_33_2 rd_R02_Compare_33_2 br) :: []
theorem lk_R02_Compare_33_2 {R : Type} : ∀ e ∈ ll_R02_Compare_33_2 (R := R), LoopTells Tryd.prog X105 M_R02_Compare L_R02_Compare e.2.1 (L_R02_Compare e.1) (bodyOf Tryd.prog e.1 e.2.2.1) e.2.2.2 := List.forall_mem_cons.2 ⟨lo_R02_Compare_33_2, noneIn⟩
def S_R02_Compare : FSp := ⟨[.one (.l 25), .one (.l 25)], [], [], [([.one (.i .i64)], [])]⟩
noncomputable def m_R02_Compare : List U → Rt
  | [.l v0, .l v1] =>
    (let r0 : Rs := (lres rd_R02_Compare_33_2 [U.l v0, U.l v1, U.i (0 : Int)])
    (.test (ok r0 0)
    (.stop 0 [.i (uI (out r0 0) 0)])
    (.test (ok r0 1)
    (.test (decide (ln (uL (out r0 1) 0) < ln (uL (out r0 1) 1)))
    (.stop 0 [.i ((-1 : Int))])
    (.test (decide (ln (uL (out r0 1) 0) > ln (uL (out r0 1) 1)))
    (.stop 0 [.i ((1 : Int))])
    (.stop 0 [.i ((0 : Int))])))
    .fail)))
  | _ => .fail
set_option maxRecDepth 100000 in
theorem q_R02_Compare (v0 : List (List PV)) (v1 : List (List PV)) : callK br Tryd.prog X105 M_R02_Compare L_R02_Compare (lsT ll_R02_Compare_33_2) 60 33 (encs [.l v0, .l v1] 0 S_R02_Compare.ap) (encH [.l v0, .l v1] (ws S_R02_Compare.ap) S_R02_Compare.ah) (fun y => fixR Tryd.prog S_R02_Compare.plan S_R02_Compare.ah.length y) =
    (m_R02_Compare [.l v0, .l v1]).go br (fun _ => none) S_R02_Compare.fin := by
  rw [← callF_eq]; kernel_rfl
theorem e_R02_Compare : EOK Tryd.prog 33 (gF S_R02_Compare m_R02_Compare) :=
  eokTold mixed named x105 (loopsOK_list rids lk_R02_Compare_33_2) 60 S_R02_Compare m_R02_Compare (by
    intro us v h; unfold m_R02_Compare at h; split at h
    · rename_i v0 v1; exact q_R02_Compare v0 v1
    · cases h) false
noncomputable abbrev X106 : Ext := extT [(33, (gF S_R02_Compare m_R02_Compare))] X105
theorem x106 : XOK Tryd.prog X106 := xok1 x105 e_R02_Compare

/-- levee/leveeref02.Same -/
def L_R02_Same : FuncId → Nat → Option (List Nat) := liveT []
def M_R02_Same : FuncId → Bool := fun _ => false
def S_R02_Same : FSp := ⟨[.one (.l 25), .one (.l 25)], [], [], [([.one (.b)], [])]⟩
noncomputable def m_R02_Same : List U → Rt
  | [.l v0, .l v1] =>
    (let r0 : Rs := (Rt.res (m_R02_Compare [U.l v0, U.l v1]))
    (.test (ok r0 0)
    (.stop 0 [.b (uI (out r0 0) 0 == (0 : Int))])
    .fail))
  | _ => .fail
set_option maxRecDepth 100000 in
theorem q_R02_Same (v0 : List (List PV)) (v1 : List (List PV)) : callK br Tryd.prog X106 M_R02_Same L_R02_Same (lsT []) 60 38 (encs [.l v0, .l v1] 0 S_R02_Same.ap) (encH [.l v0, .l v1] (ws S_R02_Same.ap) S_R02_Same.ah) (fun y => fixR Tryd.prog S_R02_Same.plan S_R02_Same.ah.length y) =
    (m_R02_Same [.l v0, .l v1]).go br (fun _ => none) S_R02_Same.fin := by
  rw [← callF_eq]; kernel_rfl
theorem e_R02_Same : EOK Tryd.prog 38 (gF S_R02_Same m_R02_Same) :=
  eokTold mixed named x106 (loopsOK_list rids noneIn) 60 S_R02_Same m_R02_Same (by
    intro us v h; unfold m_R02_Same at h; split at h
    · rename_i v0 v1; exact q_R02_Same v0 v1
    · cases h) false
noncomputable abbrev X107 : Ext := extT [(38, (gF S_R02_Same m_R02_Same))] X106
theorem x107 : XOK Tryd.prog X107 := xok1 x106 e_R02_Same

/-- levee/row.May -/
def L_row_May : FuncId → Nat → Option (List Nat) := liveT [(91, 2, [0, 1, 7, 8]), (91, 1000002, []), (91, 2000002, [4])]
def M_row_May : FuncId → Bool := fun _ => false
noncomputable def rd_row_May_91_2 : List U → Rt
  | [.l v0, .i v1, .i v2] =>
    (.test (decide (v2 < v1))
    (.test (inR v2 (ln v0))
    (let r0 : Rs := (Rt.res (m_value_May [U.i (cI (el v0 v2) 0), U.i (cI (el v0 v2) 1), U.s (cS (el v0 v2) 2)]))
    (.test (ok r0 0)
    (.test (!uB (out r0 0) 0)
    (.stop 0 [.i v2])
    (.next [.l v0, .i v1, .i (w64 (v2 + (1 : Int)))]))
    .fail))
    .fail)
    (.stop 1 []))
  | _ => .fail
def sp_row_May_91_2 : LSp := ⟨19, ⟨[(0, .one (.l 25)), (1, .fn 77 []), (7, .one (.i .i64)), (8, .one (.i .i64))], []⟩, [(.ret, ⟨[(4, .one (.i .i64))], []⟩), (.exit 0, ⟨[], []⟩)]⟩
set_option maxRecDepth 100000 in
theorem rq_row_May_91_2 (v0 : List (List PV)) (v1 : Int) (v2 : Int) : runK br Tryd.prog (callK br Tryd.prog X107 M_row_May L_row_May (lsT []) 40) M_row_May (lsT [] 91 0) 40 0 (L_row_May 91) (bodyOf Tryd.prog 91 2) (sp_row_May_91_2.s.ts sp_row_May_91_2.n [.l v0, .i v1, .i v2]) (sp_row_May_91_2.s.h [.l v0, .i v1, .i v2]) (idc Tryd.prog 0 (L_row_May 91) 2) =
    (rd_row_May_91_2 [.l v0, .i v1, .i v2]).go br (fun us' => some (.normal, sp_row_May_91_2.s.ts sp_row_May_91_2.n us', sp_row_May_91_2.s.h us')) sp_row_May_91_2.fin := by
  rw [← callF_eq, ← runF_eq]; kernel_rfl
theorem lo_row_May_91_2 {R : Type} : LoopTells Tryd.prog X107 M_row_May L_row_May 0 (L_row_May 91) (bodyOf Tryd.prog 91 2) (gL (R := R) sp_row_May_91_2 rd_row_May_91_2 br) :=
  loopTold (callK_ev (loopsOK_list rids noneIn) 40) (lsokIn (loopsOK_list rids noneIn) 91 0 2) (by kernel_rfl) sp_row_May_91_2 rd_row_May_91_2 rfl (by kernel_rfl) (by
    intro us v h; unfold rd_row_May_91_2 at h; split at h
    · rename_i v0 v1 v2; exact rq_row_May_91_2 v0 v1 v2
    · cases h)
noncomputable abbrev ll_row_May_91_2 {R : Type} : List (Nat × Nat × Nat × Smy R) := (91, 0, 2, gL sp_row_May_91_2 rd_row_May_91_2 br) :: []
theorem lk_row_May_91_2 {R : Type} : ∀ e ∈ ll_row_May_91_2 (R := R), LoopTells Tryd.prog X107 M_row_May L_row_May e.2.1 (L_row_May e.1) (bodyOf Tryd.prog e.1 e.2.2.1) e.2.2.2 := List.forall_mem_cons.2 ⟨lo_row_May_91_2, noneIn⟩
def S_row_May : FSp := ⟨[.one (.l 25)], [], [], [([.one (.b)], [])]⟩
noncomputable def m_row_May : List U → Rt
  | [.l v0] =>
    (.test (decide (ln v0 ≤ (40 : Int)))
    (let r0 : Rs := (lres rd_row_May_91_2 [U.l v0, U.i (ln v0), U.i (0 : Int)])
    (.test (ok r0 0)
    (.stop 0 [.b (!decide (uI (out r0 0) 0 ≥ (0 : Int)))])
    (.test (ok r0 1)
    (.stop 0 [.b true])
    .fail)))
    (.stop 0 [.b false]))
  | _ => .fail
set_option maxRecDepth 100000 in
theorem q_row_May (v0 : List (List PV)) : callK br Tryd.prog X107 M_row_May L_row_May (lsT ll_row_May_91_2) 60 59 (encs [.l v0] 0 S_row_May.ap) (encH [.l v0] (ws S_row_May.ap) S_row_May.ah) (fun y => fixR Tryd.prog S_row_May.plan S_row_May.ah.length y) =
    (m_row_May [.l v0]).go br (fun _ => none) S_row_May.fin := by
  rw [← callF_eq]; kernel_rfl
theorem e_row_May : EOK Tryd.prog 59 (gF S_row_May m_row_May) :=
  eokTold mixed named x107 (loopsOK_list rids lk_row_May_91_2) 60 S_row_May m_row_May (by
    intro us v h; unfold m_row_May at h; split at h
    · rename_i v0; exact q_row_May v0
    · cases h) false
noncomputable abbrev X108 : Ext := extT [(59, (gF S_row_May m_row_May))] X107
theorem x108 : XOK Tryd.prog X108 := xok1 x107 e_row_May

/-- levee/row.Fits -/
def L_row_Fits : FuncId → Nat → Option (List Nat) := liveT [(39, 4, [1, 2, 26, 27, 28]), (39, 1000004, []), (39, 2000004, [6])]
def M_row_Fits : FuncId → Bool := fun _ => false
noncomputable def rd_row_Fits_39_4 : List U → Rt
  | [.l v0, .l v1, .l v2, .i v3, .i v4] =>
    (.test (decide (v4 < v3))
    (.test (inR v4 (ln v2))
    (.test (inR v4 (ln v0))
    (.test (cI (el v2 v4) 0 != cI (el v0 v4) 0)
    (.test (inR v4 (ln v1))
    (.test (cB (el v1 v4) 0)
    (.test (!cI (el v2 v4) 0 == (0 : Int))
    (.stop 0 [.b false])
    (.next [.l v0, .l v1, .l v2, .i v3, .i (w64 (v4 + (1 : Int)))]))
    (.stop 0 [.b false]))
    .fail)
    (.next [.l v0, .l v1, .l v2, .i v3, .i (w64 (v4 + (1 : Int)))]))
    .fail)
    .fail)
    (.stop 1 []))
  | _ => .fail
def sp_row_Fits_39_4 : LSp := ⟨53, ⟨[(1, .one (.l 3)), (2, .one (.l 4)), (26, .one (.l 25)), (27, .one (.i .i64)), (28, .one (.i .i64))], []⟩, [(.ret, ⟨[(6, .one (.b))], []⟩), (.exit 0, ⟨[], []⟩)]⟩
set_option maxRecDepth 100000 in
theorem rq_row_Fits_39_4 (v0 : List (List PV)) (v1 : List (List PV)) (v2 : List (List PV)) (v3 : Int) (v4 : Int) : runK br Tryd.prog (callK br Tryd.prog X108 M_row_Fits L_row_Fits (lsT []) 40) M_row_Fits (lsT [] 39 0) 40 0 (L_row_Fits 39) (bodyOf Tryd.prog 39 4) (sp_row_Fits_39_4.s.ts sp_row_Fits_39_4.n [.l v0, .l v1, .l v2, .i v3, .i v4]) (sp_row_Fits_39_4.s.h [.l v0, .l v1, .l v2, .i v3, .i v4]) (idc Tryd.prog 0 (L_row_Fits 39) 4) =
    (rd_row_Fits_39_4 [.l v0, .l v1, .l v2, .i v3, .i v4]).go br (fun us' => some (.normal, sp_row_Fits_39_4.s.ts sp_row_Fits_39_4.n us', sp_row_Fits_39_4.s.h us')) sp_row_Fits_39_4.fin := by
  rw [← callF_eq, ← runF_eq]; kernel_rfl
theorem lo_row_Fits_39_4 {R : Type} : LoopTells Tryd.prog X108 M_row_Fits L_row_Fits 0 (L_row_Fits 39) (bodyOf Tryd.prog 39 4) (gL (R := R) sp_row_Fits_39_4 rd_row_Fits_39_4 br) :=
  loopTold (callK_ev (loopsOK_list rids noneIn) 40) (lsokIn (loopsOK_list rids noneIn) 39 0 4) (by kernel_rfl) sp_row_Fits_39_4 rd_row_Fits_39_4 rfl (by kernel_rfl) (by
    intro us v h; unfold rd_row_Fits_39_4 at h; split at h
    · rename_i v0 v1 v2 v3 v4; exact rq_row_Fits_39_4 v0 v1 v2 v3 v4
    · cases h)
noncomputable abbrev ll_row_Fits_39_4 {R : Type} : List (Nat × Nat × Nat × Smy R) := (39, 0, 4, gL sp_row_Fits_39_4 rd_row_Fits_39_4 br) :: []
theorem lk_row_Fits_39_4 {R : Type} : ∀ e ∈ ll_row_Fits_39_4 (R := R), LoopTells Tryd.prog X108 M_row_Fits L_row_Fits e.2.1 (L_row_Fits e.1) (bodyOf Tryd.prog e.1 e.2.2.1) e.2.2.2 := List.forall_mem_cons.2 ⟨lo_row_Fits_39_4, noneIn⟩
def S_row_Fits : FSp := ⟨[.one (.l 25), .one (.l 3), .one (.l 4)], [], [], [([.one (.b)], [])]⟩
noncomputable def m_row_Fits : List U → Rt
  | [.l v0, .l v1, .l v2] =>
    (let r0 : Rs := (Rt.res (m_row_May [U.l v0]))
    (.test (ok r0 0)
    (.test (!uB (out r0 0) 0)
    (.stop 0 [.b false])
    (.test (ln v0 != ln v1)
    (.stop 0 [.b false])
    (.test (ln v0 != ln v2)
    (.stop 0 [.b false])
    (let r1 : Rs := (lres rd_row_Fits_39_4 [U.l v1, U.l v2, U.l v0, U.i (ln v0), U.i (0 : Int)])
    (.test (ok r1 0)
    (.stop 0 [.b (uB (out r1 0) 0)])
    (.test (ok r1 1)
    (.stop 0 [.b true])
    .fail))))))
    .fail))
  | _ => .fail
set_option maxRecDepth 100000 in
theorem q_row_Fits (v0 : List (List PV)) (v1 : List (List PV)) (v2 : List (List PV)) : callK br Tryd.prog X108 M_row_Fits L_row_Fits (lsT ll_row_Fits_39_4) 60 39 (encs [.l v0, .l v1, .l v2] 0 S_row_Fits.ap) (encH [.l v0, .l v1, .l v2] (ws S_row_Fits.ap) S_row_Fits.ah) (fun y => fixR Tryd.prog S_row_Fits.plan S_row_Fits.ah.length y) =
    (m_row_Fits [.l v0, .l v1, .l v2]).go br (fun _ => none) S_row_Fits.fin := by
  rw [← callF_eq]; kernel_rfl
theorem e_row_Fits : EOK Tryd.prog 39 (gF S_row_Fits m_row_Fits) :=
  eokTold mixed named x108 (loopsOK_list rids lk_row_Fits_39_4) 60 S_row_Fits m_row_Fits (by
    intro us v h; unfold m_row_Fits at h; split at h
    · rename_i v0 v1 v2; exact q_row_Fits v0 v1 v2
    · cases h) false
noncomputable abbrev X109 : Ext := extT [(39, (gF S_row_Fits m_row_Fits))] X108
theorem x109 : XOK Tryd.prog X109 := xok1 x108 e_row_Fits

/-- slices.Concat[levee/api.Row,levee/api.Value] -/
def L_slices_Concat_Row : FuncId → Nat → Option (List Nat) := liveT [(65, 3, [0, 3, 9, 10, 11]), (65, 1000003, [0, 3]), (65, 2000003, [2]), (65, 11, [6, 25, 26, 27]), (65, 1000011, [6]), (65, 2000011, [2])]
def M_slices_Concat_Row : FuncId → Bool := fun _ => false
noncomputable def rd_slices_Concat_Row_65_3 : List U → Rt
  | [.l v0, .i v1, .l v2, .i v3, .i v4] =>
    (.test (decide (v4 < v3))
    (.test (inR v4 (ln v2))
    (.test (decide (w64 (v1 + ln (cL (el v2 v4) 0)) < (0 : Int)))
    .fail
    (.next [.l v0, .i (w64 (v1 + ln (cL (el v2 v4) 0))), .l v2, .i v3, .i (w64 (v4 + (1 : Int)))]))
    .fail)
    (.stop 0 [.l v0, .i v1]))
  | _ => .fail
def sp_slices_Concat_Row_65_3 : LSp := ⟨36, ⟨[(0, .one (.l 46)), (3, .one (.i .i64)), (9, .one (.l 46)), (10, .one (.i .i64)), (11, .one (.i .i64))], []⟩, [(.exit 0, ⟨[(0, .one (.l 46)), (3, .one (.i .i64))], []⟩)]⟩
set_option maxRecDepth 100000 in
theorem rq_slices_Concat_Row_65_3 (v0 : List (List PV)) (v1 : Int) (v2 : List (List PV)) (v3 : Int) (v4 : Int) : runK br Tryd.prog (callK br Tryd.prog X109 M_slices_Concat_Row L_slices_Concat_Row (lsT []) 40) M_slices_Concat_Row (lsT [] 65 0) 40 0 (L_slices_Concat_Row 65) (bodyOf Tryd.prog 65 3) (sp_slices_Concat_Row_65_3.s.ts sp_slices_Concat_Row_65_3.n [.l v0, .i v1, .l v2, .i v3, .i v4]) (sp_slices_Concat_Row_65_3.s.h [.l v0, .i v1, .l v2, .i v3, .i v4]) (idc Tryd.prog 0 (L_slices_Concat_Row 65) 3) =
    (rd_slices_Concat_Row_65_3 [.l v0, .i v1, .l v2, .i v3, .i v4]).go br (fun us' => some (.normal, sp_slices_Concat_Row_65_3.s.ts sp_slices_Concat_Row_65_3.n us', sp_slices_Concat_Row_65_3.s.h us')) sp_slices_Concat_Row_65_3.fin := by
  rw [← callF_eq, ← runF_eq]; kernel_rfl
theorem lo_slices_Concat_Row_65_3 {R : Type} : LoopTells Tryd.prog X109 M_slices_Concat_Row L_slices_Concat_Row 0 (L_slices_Concat_Row 65) (bodyOf Tryd.prog 65 3) (gL (R := R) sp_slices_Concat_Row_65_3 rd_slices_Concat_Row_65_3 br) :=
  loopTold (callK_ev (loopsOK_list rids noneIn) 40) (lsokIn (loopsOK_list rids noneIn) 65 0 3) (by kernel_rfl) sp_slices_Concat_Row_65_3 rd_slices_Concat_Row_65_3 rfl (by kernel_rfl) (by
    intro us v h; unfold rd_slices_Concat_Row_65_3 at h; split at h
    · rename_i v0 v1 v2 v3 v4; exact rq_slices_Concat_Row_65_3 v0 v1 v2 v3 v4
    · cases h)
noncomputable abbrev ll_slices_Concat_Row_65_3 {R : Type} : List (Nat × Nat × Nat × Smy R) := (65, 0, 3, gL sp_slices_Concat_Row_65_3 rd_slices_Concat_Row_65_3 br) :: []
theorem lk_slices_Concat_Row_65_3 {R : Type} : ∀ e ∈ ll_slices_Concat_Row_65_3 (R := R), LoopTells Tryd.prog X109 M_slices_Concat_Row L_slices_Concat_Row e.2.1 (L_slices_Concat_Row e.1) (bodyOf Tryd.prog e.1 e.2.2.1) e.2.2.2 := List.forall_mem_cons.2 ⟨lo_slices_Concat_Row_65_3, noneIn⟩
noncomputable def rd_slices_Concat_Row_65_11 : List U → Rt
  | [.l v0, .i v1, .i v2, .l v3] =>
    (.test (decide (v2 < v1))
    (.test (inR v2 (ln v0))
    (.test (decide ((List.length v3 + List.length (cL (el v0 v2) 0)) * 32 ≤ 140737488355328))
    (.next [.l v0, .i v1, .i (w64 (v2 + (1 : Int))), .l (v3 ++ cL (el v0 v2) 0)])
    .fail)
    .fail)
    (.stop 0 [.l v3]))
  | _ => .fail
def sp_slices_Concat_Row_65_11 : LSp := ⟨36, ⟨[(6, .one (.all 0)), (25, .one (.l 46)), (26, .one (.i .i64)), (27, .one (.i .i64))], [.arr 25 true]⟩, [(.exit 2, ⟨[(6, .one (.all 0))], [.arr 25 true]⟩)]⟩
set_option maxRecDepth 100000 in
theorem rq_slices_Concat_Row_65_11 (v0 : List (List PV)) (v1 : Int) (v2 : Int) (v3 : List (List PV)) : runK br Tryd.prog (callK br Tryd.prog X109 M_slices_Concat_Row L_slices_Concat_Row (lsT ll_slices_Concat_Row_65_3) 40) M_slices_Concat_Row (lsT ll_slices_Concat_Row_65_3 65 0) 40 0 (L_slices_Concat_Row 65) (bodyOf Tryd.prog 65 11) (sp_slices_Concat_Row_65_11.s.ts sp_slices_Concat_Row_65_11.n [.l v0, .i v1, .i v2, .l v3]) (sp_slices_Concat_Row_65_11.s.h [.l v0, .i v1, .i v2, .l v3]) (idc Tryd.prog 0 (L_slices_Concat_Row 65) 11) =
    (rd_slices_Concat_Row_65_11 [.l v0, .i v1, .i v2, .l v3]).go br (fun us' => some (.normal, sp_slices_Concat_Row_65_11.s.ts sp_slices_Concat_Row_65_11.n us', sp_slices_Concat_Row_65_11.s.h us')) sp_slices_Concat_Row_65_11.fin := by
  rw [← callF_eq, ← runF_eq]; kernel_rfl
theorem lo_slices_Concat_Row_65_11 {R : Type} : LoopTells Tryd.prog X109 M_slices_Concat_Row L_slices_Concat_Row 0 (L_slices_Concat_Row 65) (bodyOf Tryd.prog 65 11) (gL (R := R) sp_slices_Concat_Row_65_11 rd_slices_Concat_Row_65_11 br) :=
  loopTold (callK_ev (loopsOK_list rids lk_slices_Concat_Row_65_3) 40) (lsokIn (loopsOK_list rids lk_slices_Concat_Row_65_3) 65 0 11) (by kernel_rfl) sp_slices_Concat_Row_65_11 rd_slices_Concat_Row_65_11 rfl (by kernel_rfl) (by
    intro us v h; unfold rd_slices_Concat_Row_65_11 at h; split at h
    · rename_i v0 v1 v2 v3; exact rq_slices_Concat_Row_65_11 v0 v1 v2 v3
    · cases h)
noncomputable abbrev ll_slices_Concat_Row_65_11 {R : Type} : List (Nat × Nat × Nat × Smy R) := (65, 0, 11, gL sp_slices_Concat_Row_65_11 rd_slices_Concat_Row_65_11 br) :: ll_slices_Concat_Row_65_3
theorem lk_slices_Concat_Row_65_11 {R : Type} : ∀ e ∈ ll_slices_Concat_Row_65_11 (R := R), LoopTells Tryd.prog X109 M_slices_Concat_Row L_slices_Concat_Row e.2.1 (L_slices_Concat_Row e.1) (bodyOf Tryd.prog e.1 e.2.2.1) e.2.2.2 := List.forall_mem_cons.2 ⟨lo_slices_Concat_Row_65_11, lk_slices_Concat_Row_65_3⟩
def S_slices_Concat_Row : FSp := ⟨[.one (.l 46)], [], [], [([.one (.all 0)], [.arr 25 true])]⟩
noncomputable def m_slices_Concat_Row : List U → Rt
  | [.l v0] =>
    (let r0 : Rs := (lres rd_slices_Concat_Row_65_3 [U.l v0, U.i (0 : Int), U.l v0, U.i (ln v0), U.i (0 : Int)])
    (.test (ok r0 0)
    (.test (decide ((0 : Int) ≤ uI (out r0 0) 1 ∧ uI (out r0 0) 1 * (32 : Int) ≤ (140737488355328 : Int)))
    (let r1 : Rs := (lres rd_slices_Concat_Row_65_11 [U.l (uL (out r0 0) 0), U.i (ln (uL (out r0 0) 0)), U.i (0 : Int), U.l []])
    (.test (ok r1 0)
    (.stop 0 [.l (uL (out r1 0) 0)])
    .fail))
    .fail)
    .fail))
  | _ => .fail
set_option maxRecDepth 100000 in
theorem q_slices_Concat_Row (v0 : List (List PV)) : callK br Tryd.prog X109 M_slices_Concat_Row L_slices_Concat_Row (lsT ll_slices_Concat_Row_65_11) 60 65 (encs [.l v0] 0 S_slices_Concat_Row.ap) (encH [.l v0] (ws S_slices_Concat_Row.ap) S_slices_Concat_Row.ah) (fun y => fixR Tryd.prog S_slices_Concat_Row.plan S_slices_Concat_Row.ah.length y) =
    (m_slices_Concat_Row [.l v0]).go br (fun _ => none) S_slices_Concat_Row.fin := by
  rw [← callF_eq]; kernel_rfl
theorem e_slices_Concat_Row : EOK Tryd.prog 65 (gF S_slices_Concat_Row m_slices_Concat_Row) :=
  eokTold mixed named x109 (loopsOK_list rids lk_slices_Concat_Row_65_11) 60 S_slices_Concat_Row m_slices_Concat_Row (by
    intro us v h; unfold m_slices_Concat_Row at h; split at h
    · rename_i v0; exact q_slices_Concat_Row v0
    · cases h) false
noncomputable abbrev X110 : Ext := extT [(65, (gF S_slices_Concat_Row m_slices_Concat_Row))] X109
theorem x110 : XOK Tryd.prog X110 := xok1 x109 e_slices_Concat_Row

/-- levee/row.Join -/
def L_row_Join : FuncId → Nat → Option (List Nat) := liveT []
def M_row_Join : FuncId → Bool := fun _ => false
def S_row_Join : FSp := ⟨[.one (.l 46)], [], [], [([.one (.all 0)], [.arr 25 true])]⟩
noncomputable def m_row_Join : List U → Rt
  | [.l v0] =>
    (let r0 : Rs := (Rt.res (m_slices_Concat_Row [U.l v0]))
    (.test (ok r0 0)
    (.stop 0 [.l (uL (out r0 0) 0)])
    .fail))
  | _ => .fail
set_option maxRecDepth 100000 in
theorem q_row_Join (v0 : List (List PV)) : callK br Tryd.prog X110 M_row_Join L_row_Join (lsT []) 60 36 (encs [.l v0] 0 S_row_Join.ap) (encH [.l v0] (ws S_row_Join.ap) S_row_Join.ah) (fun y => fixR Tryd.prog S_row_Join.plan S_row_Join.ah.length y) =
    (m_row_Join [.l v0]).go br (fun _ => none) S_row_Join.fin := by
  rw [← callF_eq]; kernel_rfl
theorem e_row_Join : EOK Tryd.prog 36 (gF S_row_Join m_row_Join) :=
  eokTold mixed named x110 (loopsOK_list rids noneIn) 60 S_row_Join m_row_Join (by
    intro us v h; unfold m_row_Join at h; split at h
    · rename_i v0; exact q_row_Join v0
    · cases h) false
noncomputable abbrev X111 : Ext := extT [(36, (gF S_row_Join m_row_Join))] X110
theorem x111 : XOK Tryd.prog X111 := xok1 x110 e_row_Join

/-- slices.insertionSortCmpFunc[levee/api.Row] -/
def L_slices_insertionSortCmpFunc_Row : FuncId → Nat → Option (List Nat) := liveT [(92, 4, [0, 1, 2, 3, 8, 9]), (92, 1000004, [0, 1, 2, 3, 8]), (92, 2000004, []), (92, 1, [0, 1, 2, 3, 8]), (92, 1000001, []), (92, 2000001, [])]
def M_slices_insertionSortCmpFunc_Row : FuncId → Bool := fun _ => false
noncomputable def rd_slices_insertionSortCmpFunc_Row_92_4 : List U → Rt
  | [.i v0, .i v1, .i v2, .i v3, .l v4] =>
    (.test (decide (v3 > v0))
    (.test (inR v3 (ln v4))
    (.test (decide (Int.toNat v3 < List.length v4))
    (.test (inR (w64 (v3 - (1 : Int))) (ln v4))
    (.test (decide (Int.toNat (w64 (v3 - (1 : Int))) < List.length v4))
    (let r0 : Rs := (Rt.res (m_row_Compare [U.l (cL (el v4 v3) 0), U.l (cL (el v4 (w64 (v3 - (1 : Int)))) 0)]))
    (.test (ok r0 0)
    (.test (decide (uI (out r0 0) 0 < (0 : Int)))
    (.test (inR (w64 (v3 - (1 : Int))) (ln v4))
    (.test (decide (Int.toNat (w64 (v3 - (1 : Int))) < List.length v4))
    (.test (inR v3 (ln v4))
    (.test (decide (Int.toNat v3 < List.length v4))
    (.test (inR v3 (ln v4))
    (.test (decide (Int.toNat v3 < List.length v4))
    (.test (inR (w64 (v3 - (1 : Int))) (ln (List.set v4 (Int.toNat v3) (setCells (el v4 v3) 0 [PV.lst 25 (cL (el v4 (w64 (v3 - (1 : Int)))) 0)]))))
    (.test (decide (Int.toNat (w64 (v3 - (1 : Int))) < List.length (List.set v4 (Int.toNat v3) (setCells (el v4 v3) 0 [PV.lst 25 (cL (el v4 (w64 (v3 - (1 : Int)))) 0)]))))
    (.next [.i v0, .i v1, .i v2, .i (w64 (v3 - (1 : Int))), .l (List.set (List.set v4 (Int.toNat v3) (setCells (el v4 v3) 0 [PV.lst 25 (cL (el v4 (w64 (v3 - (1 : Int)))) 0)])) (Int.toNat (w64 (v3 - (1 : Int)))) (setCells (el (List.set v4 (Int.toNat v3) (setCells (el v4 v3) 0 [PV.lst 25 (cL (el v4 (w64 (v3 - (1 : Int)))) 0)])) (w64 (v3 - (1 : Int)))) 0 [PV.lst 25 (cL (el v4 v3) 0)]))])
    .fail)
    .fail)
    .fail)
    .fail)
    .fail)
    .fail)
    .fail)
    .fail)
    (.stop 0 [.i v0, .i v1, .i v2, .l v4]))
    .fail))
    .fail)
    .fail)
    .fail)
    .fail)
    (.stop 0 [.i v0, .i v1, .i v2, .l v4]))
  | _ => .fail
def sp_slices_insertionSortCmpFunc_Row_92_4 : LSp := ⟨53, ⟨[(0, .one (.all 0)), (1, .one (.i .i64)), (2, .one (.i .i64)), (3, .fn 63 []), (8, .one (.i .i64)), (9, .one (.i .i64))], [.arr 46 true]⟩, [(.exit 2, ⟨[(0, .one (.all 0)), (1, .one (.i .i64)), (2, .one (.i .i64)), (3, .fn 63 []), (8, .one (.i .i64))], [.arr 46 true]⟩)]⟩
set_option maxRecDepth 100000 in
theorem rq_slices_insertionSortCmpFunc_Row_92_4 (v0 : Int) (v1 : Int) (v2 : Int) (v3 : Int) (v4 : List (List PV)) : runK br Tryd.prog (callK br Tryd.prog X111 M_slices_insertionSortCmpFunc_Row L_slices_insertionSortCmpFunc_Row (lsT []) 40) M_slices_insertionSortCmpFunc_Row (lsT [] 92 1) 40 1 (L_slices_insertionSortCmpFunc_Row 92) (bodyOf Tryd.prog 92 4) (sp_slices_insertionSortCmpFunc_Row_92_4.s.ts sp_slices_insertionSortCmpFunc_Row_92_4.n [.i v0, .i v1, .i v2, .i v3, .l v4]) (sp_slices_insertionSortCmpFunc_Row_92_4.s.h [.i v0, .i v1, .i v2, .i v3, .l v4]) (idc Tryd.prog 1 (L_slices_insertionSortCmpFunc_Row 92) 4) =
    (rd_slices_insertionSortCmpFunc_Row_92_4 [.i v0, .i v1, .i v2, .i v3, .l v4]).go br (fun us' => some (.normal, sp_slices_insertionSortCmpFunc_Row_92_4.s.ts sp_slices_insertionSortCmpFunc_Row_92_4.n us', sp_slices_insertionSortCmpFunc_Row_92_4.s.h us')) sp_slices_insertionSortCmpFunc_Row_92_4.fin := by
  rw [← callF_eq, ← runF_eq]; kernel_rfl
theorem lo_slices_insertionSortCmpFunc_Row_92_4 {R : Type} : LoopTells Tryd.prog X111 M_slices_insertionSortCmpFunc_Row L_slices_insertionSortCmpFunc_Row 1 (L_slices_insertionSortCmpFunc_Row 92) (bodyOf Tryd.prog 92 4) (gL (R := R) sp_slices_insertionSortCmpFunc_Row_92_4 rd_slices_insertionSortCmpFunc_Row_92_4 br) :=
  loopTold (callK_ev (loopsOK_list rids noneIn) 40) (lsokIn (loopsOK_list rids noneIn) 92 1 4) (by kernel_rfl) sp_slices_insertionSortCmpFunc_Row_92_4 rd_slices_insertionSortCmpFunc_Row_92_4 rfl (by kernel_rfl) (by
    intro us v h; unfold rd_slices_insertionSortCmpFunc_Row_92_4 at h; split at h
    · rename_i v0 v1 v2 v3 v4; exact rq_slices_insertionSortCmpFunc_Row_92_4 v0 v1 v2 v3 v4
    · cases h)
noncomputable abbrev ll_slices_insertionSortCmpFunc_Row_92_4 {R : Type} : List (Nat × Nat × Nat × Smy R) := (92, 1, 4, gL sp_slices_insertionSortCmpFunc_Row_92_4 rd_slices_insertionSortCmpFunc_Row_92_4 br) :: []
theorem lk_slices_insertionSortCmpFunc_Row_92_4 {R : Type} : ∀ e ∈ ll_slices_insertionSortCmpFunc_Row_92_4 (R := R), LoopTells Tryd.prog X111 M_slices_insertionSortCmpFunc_Row L_slices_insertionSortCmpFunc_Row e.2.1 (L_slices_insertionSortCmpFunc_Row e.1) (bodyOf Tryd.prog e.1 e.2.2.1) e.2.2.2 := List.forall_mem_cons.2 ⟨lo_slices_insertionSortCmpFunc_Row_92_4, noneIn⟩
noncomputable def rd_slices_insertionSortCmpFunc_Row_92_1 : List U → Rt
  | [.i v0, .i v1, .i v2, .l v3] =>
    (.test (decide (v2 < v1))
    (let r0 : Rs := (lres rd_slices_insertionSortCmpFunc_Row_92_4 [U.i v0, U.i v1, U.i v2, U.i v2, U.l v3])
    (.test (ok r0 0)
    (.next [.i (uI (out r0 0) 0), .i (uI (out r0 0) 1), .i (w64 (uI (out r0 0) 2 + (1 : Int))), .l (uL (out r0 0) 3)])
    .fail))
    (.stop 0 [.l v3]))
  | _ => .fail
def sp_slices_insertionSortCmpFunc_Row_92_1 : LSp := ⟨53, ⟨[(0, .one (.all 0)), (1, .one (.i .i64)), (2, .one (.i .i64)), (3, .fn 63 []), (8, .one (.i .i64))], [.arr 46 true]⟩, [(.exit 0, ⟨[], [.arr 46 true]⟩)]⟩
set_option maxRecDepth 100000 in
theorem rq_slices_insertionSortCmpFunc_Row_92_1 (v0 : Int) (v1 : Int) (v2 : Int) (v3 : List (List PV)) : runK br Tryd.prog (callK br Tryd.prog X111 M_slices_insertionSortCmpFunc_Row L_slices_insertionSortCmpFunc_Row (lsT ll_slices_insertionSortCmpFunc_Row_92_4) 40) M_slices_insertionSortCmpFunc_Row (lsT ll_slices_insertionSortCmpFunc_Row_92_4 92 1) 40 1 (L_slices_insertionSortCmpFunc_Row 92) (bodyOf Tryd.prog 92 1) (sp_slices_insertionSortCmpFunc_Row_92_1.s.ts sp_slices_insertionSortCmpFunc_Row_92_1.n [.i v0, .i v1, .i v2, .l v3]) (sp_slices_insertionSortCmpFunc_Row_92_1.s.h [.i v0, .i v1, .i v2, .l v3]) (idc Tryd.prog 1 (L_slices_insertionSortCmpFunc_Row 92) 1) =
    (rd_slices_insertionSortCmpFunc_Row_92_1 [.i v0, .i v1, .i v2, .l v3]).go br (fun us' => some (.normal, sp_slices_insertionSortCmpFunc_Row_92_1.s.ts sp_slices_insertionSortCmpFunc_Row_92_1.n us', sp_slices_insertionSortCmpFunc_Row_92_1.s.h us')) sp_slices_insertionSortCmpFunc_Row_92_1.fin := by
  rw [← callF_eq, ← runF_eq]; kernel_rfl
theorem lo_slices_insertionSortCmpFunc_Row_92_1 {R : Type} : LoopTells Tryd.prog X111 M_slices_insertionSortCmpFunc_Row L_slices_insertionSortCmpFunc_Row 1 (L_slices_insertionSortCmpFunc_Row 92) (bodyOf Tryd.prog 92 1) (gL (R := R) sp_slices_insertionSortCmpFunc_Row_92_1 rd_slices_insertionSortCmpFunc_Row_92_1 br) :=
  loopTold (callK_ev (loopsOK_list rids lk_slices_insertionSortCmpFunc_Row_92_4) 40) (lsokIn (loopsOK_list rids lk_slices_insertionSortCmpFunc_Row_92_4) 92 1 1) (by kernel_rfl) sp_slices_insertionSortCmpFunc_Row_92_1 rd_slices_insertionSortCmpFunc_Row_92_1 rfl (by kernel_rfl) (by
    intro us v h; unfold rd_slices_insertionSortCmpFunc_Row_92_1 at h; split at h
    · rename_i v0 v1 v2 v3; exact rq_slices_insertionSortCmpFunc_Row_92_1 v0 v1 v2 v3
    · cases h)
noncomputable abbrev ll_slices_insertionSortCmpFunc_Row_92_1 {R : Type} : List (Nat × Nat × Nat × Smy R) := (92, 1, 1, gL sp_slices_insertionSortCmpFunc_Row_92_1 rd_slices_insertionSortCmpFunc_Row_92_1 br) :: ll_slices_insertionSortCmpFunc_Row_92_4
theorem lk_slices_insertionSortCmpFunc_Row_92_1 {R : Type} : ∀ e ∈ ll_slices_insertionSortCmpFunc_Row_92_1 (R := R), LoopTells Tryd.prog X111 M_slices_insertionSortCmpFunc_Row L_slices_insertionSortCmpFunc_Row e.2.1 (L_slices_insertionSortCmpFunc_Row e.1) (bodyOf Tryd.prog e.1 e.2.2.1) e.2.2.2 := List.forall_mem_cons.2 ⟨lo_slices_insertionSortCmpFunc_Row_92_1, lk_slices_insertionSortCmpFunc_Row_92_4⟩
def S_slices_insertionSortCmpFunc_Row : FSp := ⟨[.one (.all 0), .one (.i .i64), .one (.i .i64), .fn 63 []], [.arr 46 true], [], [([], [.arr 46 true])]⟩
noncomputable def m_slices_insertionSortCmpFunc_Row : List U → Rt
  | [.i v0, .i v1, .l v2] =>
    (let r0 : Rs := (lres rd_slices_insertionSortCmpFunc_Row_92_1 [U.i v0, U.i v1, U.i (w64 (v0 + (1 : Int))), U.l v2])
    (.test (ok r0 0)
    (.stop 0 [.l (uL (out r0 0) 0)])
    .fail))
  | _ => .fail
set_option maxRecDepth 100000 in
theorem q_slices_insertionSortCmpFunc_Row (v0 : Int) (v1 : Int) (v2 : List (List PV)) : callK br Tryd.prog X111 M_slices_insertionSortCmpFunc_Row L_slices_insertionSortCmpFunc_Row (lsT ll_slices_insertionSortCmpFunc_Row_92_1) 60 92 (encs [.i v0, .i v1, .l v2] 0 S_slices_insertionSortCmpFunc_Row.ap) (encH [.i v0, .i v1, .l v2] (ws S_slices_insertionSortCmpFunc_Row.ap) S_slices_insertionSortCmpFunc_Row.ah) (fun y => fixR Tryd.prog S_slices_insertionSortCmpFunc_Row.plan S_slices_insertionSortCmpFunc_Row.ah.length y) =
    (m_slices_insertionSortCmpFunc_Row [.i v0, .i v1, .l v2]).go br (fun _ => none) S_slices_insertionSortCmpFunc_Row.fin := by
  rw [← callF_eq]; kernel_rfl
theorem e_slices_insertionSortCmpFunc_Row : EOK Tryd.prog 92 (gF S_slices_insertionSortCmpFunc_Row m_slices_insertionSortCmpFunc_Row) :=
  eokTold mixed named x111 (loopsOK_list rids lk_slices_insertionSortCmpFunc_Row_92_1) 60 S_slices_insertionSortCmpFunc_Row m_slices_insertionSortCmpFunc_Row (by
    intro us v h; unfold m_slices_insertionSortCmpFunc_Row at h; split at h
    · rename_i v0 v1 v2; exact q_slices_insertionSortCmpFunc_Row v0 v1 v2
    · cases h) false
noncomputable abbrev X112 : Ext := extT [(92, (gF S_slices_insertionSortCmpFunc_Row m_slices_insertionSortCmpFunc_Row))] X111
theorem x112 : XOK Tryd.prog X112 := xok1 x111 e_slices_insertionSortCmpFunc_Row

/-- slices.swapRangeCmpFunc[levee/api.Row] -/
def L_slices_swapRangeCmpFunc_Row : FuncId → Nat → Option (List Nat) := liveT [(117, 1, [0, 1, 2, 3, 10]), (117, 1000001, []), (117, 2000001, [])]
def M_slices_swapRangeCmpFunc_Row : FuncId → Bool := fun _ => false
noncomputable def rd_slices_swapRangeCmpFunc_Row_117_1 : List U → Rt
  | [.i v0, .i v1, .i v2, .i v3, .l v4] =>
    (.test (decide (v3 < v2))
    (.test (inR (w64 (v1 + v3)) (ln v4))
    (.test (decide (Int.toNat (w64 (v1 + v3)) < List.length v4))
    (.test (inR (w64 (v0 + v3)) (ln v4))
    (.test (decide (Int.toNat (w64 (v0 + v3)) < List.length v4))
    (.test (inR (w64 (v0 + v3)) (ln v4))
    (.test (decide (Int.toNat (w64 (v0 + v3)) < List.length v4))
    (.test (inR (w64 (v1 + v3)) (ln (List.set v4 (Int.toNat (w64 (v0 + v3))) (setCells (el v4 (w64 (v0 + v3))) 0 [PV.lst 25 (cL (el v4 (w64 (v1 + v3))) 0)]))))
    (.test (decide (Int.toNat (w64 (v1 + v3)) < List.length (List.set v4 (Int.toNat (w64 (v0 + v3))) (setCells (el v4 (w64 (v0 + v3))) 0 [PV.lst 25 (cL (el v4 (w64 (v1 + v3))) 0)]))))
    (.next [.i v0, .i v1, .i v2, .i (w64 (v3 + (1 : Int))), .l (List.set (List.set v4 (Int.toNat (w64 (v0 + v3))) (setCells (el v4 (w64 (v0 + v3))) 0 [PV.lst 25 (cL (el v4 (w64 (v1 + v3))) 0)])) (Int.toNat (w64 (v1 + v3))) (setCells (el (List.set v4 (Int.toNat (w64 (v0 + v3))) (setCells (el v4 (w64 (v0 + v3))) 0 [PV.lst 25 (cL (el v4 (w64 (v1 + v3))) 0)])) (w64 (v1 + v3))) 0 [PV.lst 25 (cL (el v4 (w64 (v0 + v3))) 0)]))])
    .fail)
    .fail)
    .fail)
    .fail)
    .fail)
    .fail)
    .fail)
    .fail)
    (.stop 0 [.l v4]))
  | _ => .fail
def sp_slices_swapRangeCmpFunc_Row_117_1 : LSp := ⟨38, ⟨[(0, .one (.all 0)), (1, .one (.i .i64)), (2, .one (.i .i64)), (3, .one (.i .i64)), (10, .one (.i .i64))], [.arr 46 true]⟩, [(.exit 0, ⟨[], [.arr 46 true]⟩)]⟩
set_option maxRecDepth 100000 in
theorem rq_slices_swapRangeCmpFunc_Row_117_1 (v0 : Int) (v1 : Int) (v2 : Int) (v3 : Int) (v4 : List (List PV)) : runK br Tryd.prog (callK br Tryd.prog X112 M_slices_swapRangeCmpFunc_Row L_slices_swapRangeCmpFunc_Row (lsT []) 40) M_slices_swapRangeCmpFunc_Row (lsT [] 117 1) 40 1 (L_slices_swapRangeCmpFunc_Row 117) (bodyOf Tryd.prog 117 1) (sp_slices_swapRangeCmpFunc_Row_117_1.s.ts sp_slices_swapRangeCmpFunc_Row_117_1.n [.i v0, .i v1, .i v2, .i v3, .l v4]) (sp_slices_swapRangeCmpFunc_Row_117_1.s.h [.i v0, .i v1, .i v2, .i v3, .l v4]) (idc Tryd.prog 1 (L_slices_swapRangeCmpFunc_Row 117) 1) =
    (rd_slices_swapRangeCmpFunc_Row_117_1 [.i v0, .i v1, .i v2, .i v3, .l v4]).go br (fun us' => some (.normal, sp_slices_swapRangeCmpFunc_Row_117_1.s.ts sp_slices_swapRangeCmpFunc_Row_117_1.n us', sp_slices_swapRangeCmpFunc_Row_117_1.s.h us')) sp_slices_swapRangeCmpFunc_Row_117_1.fin := by
  rw [← callF_eq, ← runF_eq]; kernel_rfl
theorem lo_slices_swapRangeCmpFunc_Row_117_1 {R : Type} : LoopTells Tryd.prog X112 M_slices_swapRangeCmpFunc_Row L_slices_swapRangeCmpFunc_Row 1 (L_slices_swapRangeCmpFunc_Row 117) (bodyOf Tryd.prog 117 1) (gL (R := R) sp_slices_swapRangeCmpFunc_Row_117_1 rd_slices_swapRangeCmpFunc_Row_117_1 br) :=
  loopTold (callK_ev (loopsOK_list rids noneIn) 40) (lsokIn (loopsOK_list rids noneIn) 117 1 1) (by kernel_rfl) sp_slices_swapRangeCmpFunc_Row_117_1 rd_slices_swapRangeCmpFunc_Row_117_1 rfl (by kernel_rfl) (by
    intro us v h; unfold rd_slices_swapRangeCmpFunc_Row_117_1 at h; split at h
    · rename_i v0 v1 v2 v3 v4; exact rq_slices_swapRangeCmpFunc_Row_117_1 v0 v1 v2 v3 v4
    · cases h)
noncomputable abbrev ll_slices_swapRangeCmpFunc_Row_117_1 {R : Type} : List (Nat × Nat × Nat × Smy R) := (117, 1, 1, gL sp_slices_swapRangeCmpFunc_Row_117_1 rd_slices_swapRangeCmpFunc_Row_117_1 br) :: []
theorem lk_slices_swapRangeCmpFunc_Row_117_1 {R : Type} : ∀ e ∈ ll_slices_swapRangeCmpFunc_Row_117_1 (R := R), LoopTells Tryd.prog X112 M_slices_swapRangeCmpFunc_Row L_slices_swapRangeCmpFunc_Row e.2.1 (L_slices_swapRangeCmpFunc_Row e.1) (bodyOf Tryd.prog e.1 e.2.2.1) e.2.2.2 := List.forall_mem_cons.2 ⟨lo_slices_swapRangeCmpFunc_Row_117_1, noneIn⟩
def S_slices_swapRangeCmpFunc_Row : FSp := ⟨[.one (.all 0), .one (.i .i64), .one (.i .i64), .one (.i .i64), .fn 63 []], [.arr 46 true], [], [([], [.arr 46 true])]⟩
noncomputable def m_slices_swapRangeCmpFunc_Row : List U → Rt
  | [.i v0, .i v1, .i v2, .l v3] =>
    (let r0 : Rs := (lres rd_slices_swapRangeCmpFunc_Row_117_1 [U.i v0, U.i v1, U.i v2, U.i (0 : Int), U.l v3])
    (.test (ok r0 0)
    (.stop 0 [.l (uL (out r0 0) 0)])
    .fail))
  | _ => .fail
set_option maxRecDepth 100000 in
theorem q_slices_swapRangeCmpFunc_Row (v0 : Int) (v1 : Int) (v2 : Int) (v3 : List (List PV)) : callK br Tryd.prog X112 M_slices_swapRangeCmpFunc_Row L_slices_swapRangeCmpFunc_Row (lsT ll_slices_swapRangeCmpFunc_Row_117_1) 60 117 (encs [.i v0, .i v1, .i v2, .l v3] 0 S_slices_swapRangeCmpFunc_Row.ap) (encH [.i v0, .i v1, .i v2, .l v3] (ws S_slices_swapRangeCmpFunc_Row.ap) S_slices_swapRangeCmpFunc_Row.ah) (fun y => fixR Tryd.prog S_slices_swapRangeCmpFunc_Row.plan S_slices_swapRangeCmpFunc_Row.ah.length y) =
    (m_slices_swapRangeCmpFunc_Row [.i v0, .i v1, .i v2, .l v3]).go br (fun _ => none) S_slices_swapRangeCmpFunc_Row.fin := by
  rw [← callF_eq]; kernel_rfl
theorem e_slices_swapRangeCmpFunc_Row : EOK Tryd.prog 117 (gF S_slices_swapRangeCmpFunc_Row m_slices_swapRangeCmpFunc_Row) :=
  eokTold mixed named x112 (loopsOK_list rids lk_slices_swapRangeCmpFunc_Row_117_1) 60 S_slices_swapRangeCmpFunc_Row m_slices_swapRangeCmpFunc_Row (by
    intro us v h; unfold m_slices_swapRangeCmpFunc_Row at h; split at h
    · rename_i v0 v1 v2 v3; exact q_slices_swapRangeCmpFunc_Row v0 v1 v2 v3
    · cases h) false
noncomputable abbrev X113 : Ext := extT [(117, (gF S_slices_swapRangeCmpFunc_Row m_slices_swapRangeCmpFunc_Row))] X112
theorem x113 : XOK Tryd.prog X113 := xok1 x112 e_slices_swapRangeCmpFunc_Row

/-- slices.rotateCmpFunc[levee/api.Row] -/
def L_slices_rotateCmpFunc_Row : FuncId → Nat → Option (List Nat) := liveT [(105, 2, [0, 2, 4, 10, 11]), (105, 1000002, [0, 2, 4, 10]), (105, 2000002, [])]
def M_slices_rotateCmpFunc_Row : FuncId → Bool := fun f => f == 117
noncomputable def rd_slices_rotateCmpFunc_Row_105_2 : List U → Rt
  | [.i v0, .i v1, .i v2, .l v3] =>
    (.test (v1 != v2)
    (.test (decide (v1 > v2))
    (let r0 : Rs := (Rt.res (m_slices_swapRangeCmpFunc_Row [U.i (w64 (v0 - v1)), U.i v0, U.i v2, U.l v3]))
    (.test (ok r0 0)
    (.next [.i v0, .i (w64 (v1 - v2)), .i v2, .l (uL (out r0 0) 0)])
    .fail))
    (let r1 : Rs := (Rt.res (m_slices_swapRangeCmpFunc_Row [U.i (w64 (v0 - v1)), U.i (w64 (w64 (v0 + v2) - v1)), U.i v1, U.l v3]))
    (.test (ok r1 0)
    (.next [.i v0, .i v1, .i (w64 (v2 - v1)), .l (uL (out r1 0) 0)])
    .fail)))
    (.stop 0 [.i v0, .i v1, .l v3]))
  | _ => .fail
def sp_slices_rotateCmpFunc_Row_105_2 : LSp := ⟨58, ⟨[(0, .one (.all 0)), (2, .one (.i .i64)), (4, .fn 63 []), (10, .one (.i .i64)), (11, .one (.i .i64))], [.arr 46 true]⟩, [(.exit 0, ⟨[(0, .one (.all 0)), (2, .one (.i .i64)), (4, .fn 63 []), (10, .one (.i .i64))], [.arr 46 true]⟩)]⟩
set_option maxRecDepth 100000 in
theorem rq_slices_rotateCmpFunc_Row_105_2 (v0 : Int) (v1 : Int) (v2 : Int) (v3 : List (List PV)) : runK br Tryd.prog (callK br Tryd.prog X113 M_slices_rotateCmpFunc_Row L_slices_rotateCmpFunc_Row (lsT []) 40) M_slices_rotateCmpFunc_Row (lsT [] 105 1) 40 1 (L_slices_rotateCmpFunc_Row 105) (bodyOf Tryd.prog 105 2) (sp_slices_rotateCmpFunc_Row_105_2.s.ts sp_slices_rotateCmpFunc_Row_105_2.n [.i v0, .i v1, .i v2, .l v3]) (sp_slices_rotateCmpFunc_Row_105_2.s.h [.i v0, .i v1, .i v2, .l v3]) (idc Tryd.prog 1 (L_slices_rotateCmpFunc_Row 105) 2) =
    (rd_slices_rotateCmpFunc_Row_105_2 [.i v0, .i v1, .i v2, .l v3]).go br (fun us' => some (.normal, sp_slices_rotateCmpFunc_Row_105_2.s.ts sp_slices_rotateCmpFunc_Row_105_2.n us', sp_slices_rotateCmpFunc_Row_105_2.s.h us')) sp_slices_rotateCmpFunc_Row_105_2.fin := by
  rw [← callF_eq, ← runF_eq]; kernel_rfl
theorem lo_slices_rotateCmpFunc_Row_105_2 {R : Type} : LoopTells Tryd.prog X113 M_slices_rotateCmpFunc_Row L_slices_rotateCmpFunc_Row 1 (L_slices_rotateCmpFunc_Row 105) (bodyOf Tryd.prog 105 2) (gL (R := R) sp_slices_rotateCmpFunc_Row_105_2 rd_slices_rotateCmpFunc_Row_105_2 br) :=
  loopTold (callK_ev (loopsOK_list rids noneIn) 40) (lsokIn (loopsOK_list rids noneIn) 105 1 2) (by kernel_rfl) sp_slices_rotateCmpFunc_Row_105_2 rd_slices_rotateCmpFunc_Row_105_2 rfl (by kernel_rfl) (by
    intro us v h; unfold rd_slices_rotateCmpFunc_Row_105_2 at h; split at h
    · rename_i v0 v1 v2 v3; exact rq_slices_rotateCmpFunc_Row_105_2 v0 v1 v2 v3
    · cases h)
noncomputable abbrev ll_slices_rotateCmpFunc_Row_105_2 {R : Type} : List (Nat × Nat × Nat × Smy R) := (105, 1, 2, gL sp_slices_rotateCmpFunc_Row_105_2 rd_slices_rotateCmpFunc_Row_105_2 br) :: []
theorem lk_slices_rotateCmpFunc_Row_105_2 {R : Type} : ∀ e ∈ ll_slices_rotateCmpFunc_Row_105_2 (R := R), LoopTells Tryd.prog X113 M_slices_rotateCmpFunc_Row L_slices_rotateCmpFunc_Row e.2.1 (L_slices_rotateCmpFunc_Row e.1) (bodyOf Tryd.prog e.1 e.2.2.1) e.2.2.2 := List.forall_mem_cons.2 ⟨lo_slices_rotateCmpFunc_Row_105_2, noneIn⟩
def S_slices_rotateCmpFunc_Row : FSp := ⟨[.one (.all 0), .one (.i .i64), .one (.i .i64), .one (.i .i64), .fn 63 []], [.arr 46 true], [], [([], [.arr 46 true])]⟩
noncomputable def m_slices_rotateCmpFunc_Row : List U → Rt
  | [.i v0, .i v1, .i v2, .l v3] =>
    (let r0 : Rs := (lres rd_slices_rotateCmpFunc_Row_105_2 [U.i v1, U.i (w64 (v1 - v0)), U.i (w64 (v2 - v1)), U.l v3])
    (.test (ok r0 0)
    (let r1 : Rs := (Rt.res (m_slices_swapRangeCmpFunc_Row [U.i (w64 (uI (out r0 0) 0 - uI (out r0 0) 1)), U.i (uI (out r0 0) 0), U.i (uI (out r0 0) 1), U.l (uL (out r0 0) 2)]))
    (.test (ok r1 0)
    (.stop 0 [.l (uL (out r1 0) 0)])
    .fail))
    .fail))
  | _ => .fail
set_option maxRecDepth 100000 in
theorem q_slices_rotateCmpFunc_Row (v0 : Int) (v1 : Int) (v2 : Int) (v3 : List (List PV)) : callK br Tryd.prog X113 M_slices_rotateCmpFunc_Row L_slices_rotateCmpFunc_Row (lsT ll_slices_rotateCmpFunc_Row_105_2) 60 105 (encs [.i v0, .i v1, .i v2, .l v3] 0 S_slices_rotateCmpFunc_Row.ap) (encH [.i v0, .i v1, .i v2, .l v3] (ws S_slices_rotateCmpFunc_Row.ap) S_slices_rotateCmpFunc_Row.ah) (fun y => fixR Tryd.prog S_slices_rotateCmpFunc_Row.plan S_slices_rotateCmpFunc_Row.ah.length y) =
    (m_slices_rotateCmpFunc_Row [.i v0, .i v1, .i v2, .l v3]).go br (fun _ => none) S_slices_rotateCmpFunc_Row.fin := by
  rw [← callF_eq]; kernel_rfl
theorem e_slices_rotateCmpFunc_Row : EOK Tryd.prog 105 (gF S_slices_rotateCmpFunc_Row m_slices_rotateCmpFunc_Row) :=
  eokTold mixed named x113 (loopsOK_list rids lk_slices_rotateCmpFunc_Row_105_2) 60 S_slices_rotateCmpFunc_Row m_slices_rotateCmpFunc_Row (by
    intro us v h; unfold m_slices_rotateCmpFunc_Row at h; split at h
    · rename_i v0 v1 v2 v3; exact q_slices_rotateCmpFunc_Row v0 v1 v2 v3
    · cases h) false
noncomputable abbrev X114 : Ext := extT [(105, (gF S_slices_rotateCmpFunc_Row m_slices_rotateCmpFunc_Row))] X113
theorem x114 : XOK Tryd.prog X114 := xok1 x113 e_slices_rotateCmpFunc_Row

/-- slices.symMergeCmpFunc[levee/api.Row] -/
def L_slices_symMergeCmpFunc_Row : FuncId → Nat → Option (List Nat) := liveT [(93, 3, [0, 1, 4, 10, 11]), (93, 1000003, [0, 1, 10]), (93, 2000003, []), (93, 9, [0, 10, 13]), (93, 1000009, []), (93, 2000009, []), (93, 15, [0, 2, 4, 14, 15]), (93, 1000015, [0, 2, 14]), (93, 2000015, []), (93, 21, [0, 14, 17]), (93, 1000021, []), (93, 2000021, []), (93, 33, [0, 1, 2, 3, 4, 18, 19, 20, 21, 22]), (93, 1000033, [0, 1, 2, 3, 4, 18, 19, 20]), (93, 2000033, [])]
def M_slices_symMergeCmpFunc_Row : FuncId → Bool := fun f => f == 93 || f == 105
def S_slices_symMergeCmpFunc_Row : FSp := ⟨[.one (.all 0), .one (.i .i64), .one (.i .i64), .one (.i .i64), .fn 63 []], [.arr 46 true], [], [([], [.arr 46 true])]⟩
noncomputable def rd_slices_symMergeCmpFunc_Row_93_3 : List U → Rt
  | [.i v0, .i v1, .i v2, .l v3] =>
    (.test (decide (v1 < v2))
    (.test (inR (w64 (Int.fdiv (IntKind.wrap IntKind.u64 (w64 (v1 + v2))) (2 : Int))) (ln v3))
    (.test (decide (Int.toNat (w64 (Int.fdiv (IntKind.wrap IntKind.u64 (w64 (v1 + v2))) (2 : Int))) < List.length v3))
    (.test (inR v0 (ln v3))
    (.test (decide (Int.toNat v0 < List.length v3))
    (let r0 : Rs := (Rt.res (m_row_Compare [U.l (cL (el v3 (w64 (Int.fdiv (IntKind.wrap IntKind.u64 (w64 (v1 + v2))) (2 : Int)))) 0), U.l (cL (el v3 v0) 0)]))
    (.test (ok r0 0)
    (.test (decide (uI (out r0 0) 0 < (0 : Int)))
    (.next [.i v0, .i (w64 (w64 (Int.fdiv (IntKind.wrap IntKind.u64 (w64 (v1 + v2))) (2 : Int)) + (1 : Int))), .i v2, .l v3])
    (.next [.i v0, .i v1, .i (w64 (Int.fdiv (IntKind.wrap IntKind.u64 (w64 (v1 + v2))) (2 : Int))), .l v3]))
    .fail))
    .fail)
    .fail)
    .fail)
    .fail)
    (.stop 0 [.i v0, .i v1, .l v3]))
  | _ => .fail
def sp_slices_symMergeCmpFunc_Row_93_3 : LSp := ⟨220, ⟨[(0, .one (.all 0)), (1, .one (.i .i64)), (4, .fn 63 []), (10, .one (.i .i64)), (11, .one (.i .i64))], [.arr 46 true]⟩, [(.exit 0, ⟨[(0, .one (.all 0)), (1, .one (.i .i64)), (10, .one (.i .i64))], [.arr 46 true]⟩)]⟩
set_option maxRecDepth 100000 in
theorem rq_slices_symMergeCmpFunc_Row_93_3 (mr : List U → Rt) (v0 : Int) (v1 : Int) (v2 : Int) (v3 : List (List PV)) : runK br Tryd.prog (callK br Tryd.prog (extT [(93, gF S_slices_symMergeCmpFunc_Row mr)] X114) M_slices_symMergeCmpFunc_Row L_slices_symMergeCmpFunc_Row (lsT []) 40) M_slices_symMergeCmpFunc_Row (lsT [] 93 1) 40 1 (L_slices_symMergeCmpFunc_Row 93) (bodyOf Tryd.prog 93 3) (sp_slices_symMergeCmpFunc_Row_93_3.s.ts sp_slices_symMergeCmpFunc_Row_93_3.n [.i v0, .i v1, .i v2, .l v3]) (sp_slices_symMergeCmpFunc_Row_93_3.s.h [.i v0, .i v1, .i v2, .l v3]) (idc Tryd.prog 1 (L_slices_symMergeCmpFunc_Row 93) 3) =
    (rd_slices_symMergeCmpFunc_Row_93_3 [.i v0, .i v1, .i v2, .l v3]).go br (fun us' => some (.normal, sp_slices_symMergeCmpFunc_Row_93_3.s.ts sp_slices_symMergeCmpFunc_Row_93_3.n us', sp_slices_symMergeCmpFunc_Row_93_3.s.h us')) sp_slices_symMergeCmpFunc_Row_93_3.fin := by
  rw [← callF_eq, ← runF_eq]; kernel_rfl
theorem lo_slices_symMergeCmpFunc_Row_93_3 {R : Type} (mr : List U → Rt) : LoopTells Tryd.prog (extT [(93, gF S_slices_symMergeCmpFunc_Row mr)] X114) M_slices_symMergeCmpFunc_Row L_slices_symMergeCmpFunc_Row 1 (L_slices_symMergeCmpFunc_Row 93) (bodyOf Tryd.prog 93 3) (gL (R := R) sp_slices_symMergeCmpFunc_Row_93_3 rd_slices_symMergeCmpFunc_Row_93_3 br) :=
  loopTold (callK_ev (loopsOK_list rids noneIn) 40) (lsokIn (loopsOK_list rids noneIn) 93 1 3) (by kernel_rfl) sp_slices_symMergeCmpFunc_Row_93_3 rd_slices_symMergeCmpFunc_Row_93_3 rfl (by kernel_rfl) (by
    intro us v h; unfold rd_slices_symMergeCmpFunc_Row_93_3 at h; split at h
    · rename_i v0 v1 v2 v3; exact rq_slices_symMergeCmpFunc_Row_93_3 mr v0 v1 v2 v3
    · cases h)
noncomputable abbrev ll_slices_symMergeCmpFunc_Row_93_3 {R : Type} : List (Nat × Nat × Nat × Smy R) := (93, 1, 3, gL sp_slices_symMergeCmpFunc_Row_93_3 rd_slices_symMergeCmpFunc_Row_93_3 br) :: []
theorem lk_slices_symMergeCmpFunc_Row_93_3 {R : Type} (mr : List U → Rt) : ∀ e ∈ ll_slices_symMergeCmpFunc_Row_93_3 (R := R), LoopTells Tryd.prog (extT [(93, gF S_slices_symMergeCmpFunc_Row mr)] X114) M_slices_symMergeCmpFunc_Row L_slices_symMergeCmpFunc_Row e.2.1 (L_slices_symMergeCmpFunc_Row e.1) (bodyOf Tryd.prog e.1 e.2.2.1) e.2.2.2 := List.forall_mem_cons.2 ⟨lo_slices_symMergeCmpFunc_Row_93_3 mr, noneIn⟩
noncomputable def rd_slices_symMergeCmpFunc_Row_93_9 : List U → Rt
  | [.i v0, .i v1, .l v2] =>
    (.test (decide (v1 < w64 (v0 - (1 : Int))))
    (.test (inR (w64 (v1 + (1 : Int))) (ln v2))
    (.test (decide (Int.toNat (w64 (v1 + (1 : Int))) < List.length v2))
    (.test (inR v1 (ln v2))
    (.test (decide (Int.toNat v1 < List.length v2))
    (.test (inR v1 (ln v2))
    (.test (decide (Int.toNat v1 < List.length v2))
    (.test (inR (w64 (v1 + (1 : Int))) (ln (List.set v2 (Int.toNat v1) (setCells (el v2 v1) 0 [PV.lst 25 (cL (el v2 (w64 (v1 + (1 : Int)))) 0)]))))
    (.test (decide (Int.toNat (w64 (v1 + (1 : Int))) < List.length (List.set v2 (Int.toNat v1) (setCells (el v2 v1) 0 [PV.lst 25 (cL (el v2 (w64 (v1 + (1 : Int)))) 0)]))))
    (.next [.i v0, .i (w64 (v1 + (1 : Int))), .l (List.set (List.set v2 (Int.toNat v1) (setCells (el v2 v1) 0 [PV.lst 25 (cL (el v2 (w64 (v1 + (1 : Int)))) 0)])) (Int.toNat (w64 (v1 + (1 : Int)))) (setCells (el (List.set v2 (Int.toNat v1) (setCells (el v2 v1) 0 [PV.lst 25 (cL (el v2 (w64 (v1 + (1 : Int)))) 0)])) (w64 (v1 + (1 : Int)))) 0 [PV.lst 25 (cL (el v2 v1) 0)]))])
    .fail)
    .fail)
    .fail)
    .fail)
    .fail)
    .fail)
    .fail)
    .fail)
    (.stop 0 [.l v2]))
  | _ => .fail
def sp_slices_symMergeCmpFunc_Row_93_9 : LSp := ⟨220, ⟨[(0, .one (.all 0)), (10, .one (.i .i64)), (13, .one (.i .i64))], [.arr 46 true]⟩, [(.exit 2, ⟨[], [.arr 46 true]⟩)]⟩
set_option maxRecDepth 100000 in
theorem rq_slices_symMergeCmpFunc_Row_93_9 (mr : List U → Rt) (v0 : Int) (v1 : Int) (v2 : List (List PV)) : runK br Tryd.prog (callK br Tryd.prog (extT [(93, gF S_slices_symMergeCmpFunc_Row mr)] X114) M_slices_symMergeCmpFunc_Row L_slices_symMergeCmpFunc_Row (lsT ll_slices_symMergeCmpFunc_Row_93_3) 40) M_slices_symMergeCmpFunc_Row (lsT ll_slices_symMergeCmpFunc_Row_93_3 93 1) 40 1 (L_slices_symMergeCmpFunc_Row 93) (bodyOf Tryd.prog 93 9) (sp_slices_symMergeCmpFunc_Row_93_9.s.ts sp_slices_symMergeCmpFunc_Row_93_9.n [.i v0, .i v1, .l v2]) (sp_slices_symMergeCmpFunc_Row_93_9.s.h [.i v0, .i v1, .l v2]) (idc Tryd.prog 1 (L_slices_symMergeCmpFunc_Row 93) 9) =
    (rd_slices_symMergeCmpFunc_Row_93_9 [.i v0, .i v1, .l v2]).go br (fun us' => some (.normal, sp_slices_symMergeCmpFunc_Row_93_9.s.ts sp_slices_symMergeCmpFunc_Row_93_9.n us', sp_slices_symMergeCmpFunc_Row_93_9.s.h us')) sp_slices_symMergeCmpFunc_Row_93_9.fin := by
  rw [← callF_eq, ← runF_eq]; kernel_rfl
theorem lo_slices_symMergeCmpFunc_Row_93_9 {R : Type} (mr : List U → Rt) : LoopTells Tryd.prog (extT [(93, gF S_slices_symMergeCmpFunc_Row mr)] X114) M_slices_symMergeCmpFunc_Row L_slices_symMergeCmpFunc_Row 1 (L_slices_symMergeCmpFunc_Row 93) (bodyOf Tryd.prog 93 9) (gL (R := R) sp_slices_symMergeCmpFunc_Row_93_9 rd_slices_symMergeCmpFunc_Row_93_9 br) :=
  loopTold (callK_ev (loopsOK_list rids (lk_slices_symMergeCmpFunc_Row_93_3 mr)) 40) (lsokIn (loopsOK_list rids (lk_slices_symMergeCmpFunc_Row_93_3 mr)) 93 1 9) (by kernel_rfl) sp_slices_symMergeCmpFunc_Row_93_9 rd_slices_symMergeCmpFunc_Row_93_9 rfl (by kernel_rfl) (by
    intro us v h; unfold rd_slices_symMergeCmpFunc_Row_93_9 at h; split at h
    · rename_i v0 v1 v2; exact rq_slices_symMergeCmpFunc_Row_93_9 mr v0 v1 v2
    · cases h)
noncomputable abbrev ll_slices_symMergeCmpFunc_Row_93_9 {R : Type} : List (Nat × Nat × Nat × Smy R) := (93, 1, 9, gL sp_slices_symMergeCmpFunc_Row_93_9 rd_slices_symMergeCmpFunc_Row_93_9 br) :: ll_slices_symMergeCmpFunc_Row_93_3
theorem lk_slices_symMergeCmpFunc_Row_93_9 {R : Type} (mr : List U → Rt) : ∀ e ∈ ll_slices_symMergeCmpFunc_Row_93_9 (R := R), LoopTells Tryd.prog (extT [(93, gF S_slices_symMergeCmpFunc_Row mr)] X114) M_slices_symMergeCmpFunc_Row L_slices_symMergeCmpFunc_Row e.2.1 (L_slices_symMergeCmpFunc_Row e.1) (bodyOf Tryd.prog e.1 e.2.2.1) e.2.2.2 := List.forall_mem_cons.2 ⟨lo_slices_symMergeCmpFunc_Row_93_9 mr, (lk_slices_symMergeCmpFunc_Row_93_3 mr)⟩
noncomputable def rd_slices_symMergeCmpFunc_Row_93_15 : List U → Rt
  | [.i v0, .i v1, .i v2, .l v3] =>
    (.test (decide (v1 < v2))
    (.test (inR v0 (ln v3))
    (.test (decide (Int.toNat v0 < List.length v3))
    (.test (inR (w64 (Int.fdiv (IntKind.wrap IntKind.u64 (w64 (v1 + v2))) (2 : Int))) (ln v3))
    (.test (decide (Int.toNat (w64 (Int.fdiv (IntKind.wrap IntKind.u64 (w64 (v1 + v2))) (2 : Int))) < List.length v3))
    (let r0 : Rs := (Rt.res (m_row_Compare [U.l (cL (el v3 v0) 0), U.l (cL (el v3 (w64 (Int.fdiv (IntKind.wrap IntKind.u64 (w64 (v1 + v2))) (2 : Int)))) 0)]))
    (.test (ok r0 0)
    (.test (!decide (uI (out r0 0) 0 < (0 : Int)))
    (.next [.i v0, .i (w64 (w64 (Int.fdiv (IntKind.wrap IntKind.u64 (w64 (v1 + v2))) (2 : Int)) + (1 : Int))), .i v2, .l v3])
    (.next [.i v0, .i v1, .i (w64 (Int.fdiv (IntKind.wrap IntKind.u64 (w64 (v1 + v2))) (2 : Int))), .l v3]))
    .fail))
    .fail)
    .fail)
    .fail)
    .fail)
    (.stop 0 [.i v0, .i v1, .l v3]))
  | _ => .fail
def sp_slices_symMergeCmpFunc_Row_93_15 : LSp := ⟨220, ⟨[(0, .one (.all 0)), (2, .one (.i .i64)), (4, .fn 63 []), (14, .one (.i .i64)), (15, .one (.i .i64))], [.arr 46 true]⟩, [(.exit 4, ⟨[(0, .one (.all 0)), (2, .one (.i .i64)), (14, .one (.i .i64))], [.arr 46 true]⟩)]⟩
set_option maxRecDepth 100000 in
theorem rq_slices_symMergeCmpFunc_Row_93_15 (mr : List U → Rt) (v0 : Int) (v1 : Int) (v2 : Int) (v3 : List (List PV)) : runK br Tryd.prog (callK br Tryd.prog (extT [(93, gF S_slices_symMergeCmpFunc_Row mr)] X114) M_slices_symMergeCmpFunc_Row L_slices_symMergeCmpFunc_Row (lsT ll_slices_symMergeCmpFunc_Row_93_9) 40) M_slices_symMergeCmpFunc_Row (lsT ll_slices_symMergeCmpFunc_Row_93_9 93 1) 40 1 (L_slices_symMergeCmpFunc_Row 93) (bodyOf Tryd.prog 93 15) (sp_slices_symMergeCmpFunc_Row_93_15.s.ts sp_slices_symMergeCmpFunc_Row_93_15.n [.i v0, .i v1, .i v2, .l v3]) (sp_slices_symMergeCmpFunc_Row_93_15.s.h [.i v0, .i v1, .i v2, .l v3]) (idc Tryd.prog 1 (L_slices_symMergeCmpFunc_Row 93) 15) =
    (rd_slices_symMergeCmpFunc_Row_93_15 [.i v0, .i v1, .i v2, .l v3]).go br (fun us' => some (.normal, sp_slices_symMergeCmpFunc_Row_93_15.s.ts sp_slices_symMergeCmpFunc_Row_93_15.n us', sp_slices_symMergeCmpFunc_Row_93_15.s.h us')) sp_slices_symMergeCmpFunc_Row_93_15.fin := by
  rw [← callF_eq, ← runF_eq]; kernel_rfl
theorem lo_slices_symMergeCmpFunc_Row_93_15 {R : Type} (mr : List U → Rt) : LoopTells Tryd.prog (extT [(93, gF S_slices_symMergeCmpFunc_Row mr)] X114) M_slices_symMergeCmpFunc_Row L_slices_symMergeCmpFunc_Row 1 (L_slices_symMergeCmpFunc_Row 93) (bodyOf Tryd.prog 93 15) (gL (R := R) sp_slices_symMergeCmpFunc_Row_93_15 rd_slices_symMergeCmpFunc_Row_93_15 br) :=
  loopTold (callK_ev (loopsOK_list rids (lk_slices_symMergeCmpFunc_Row_93_9 mr)) 40) (lsokIn (loopsOK_list rids (lk_slices_symMergeCmpFunc_Row_93_9 mr)) 93 1 15) (by kernel_rfl) sp_slices_symMergeCmpFunc_Row_93_15 rd_slices_symMergeCmpFunc_Row_93_15 rfl (by kernel_rfl) (by
    intro us v h; unfold rd_slices_symMergeCmpFunc_Row_93_15 at h; split at h
    · rename_i v0 v1 v2 v3; exact rq_slices_symMergeCmpFunc_Row_93_15 mr v0 v1 v2 v3
    · cases h)
noncomputable abbrev ll_slices_symMergeCmpFunc_Row_93_15 {R : Type} : List (Nat × Nat × Nat × Smy R) := (93, 1, 15, gL sp_slices_symMergeCmpFunc_Row_93_15 rd_slices_symMergeCmpFunc_Row_93_15 br) :: ll_slices_symMergeCmpFunc_Row_93_9
theorem lk_slices_symMergeCmpFunc_Row_93_15 {R : Type} (mr : List U → Rt) : ∀ e ∈ ll_slices_symMergeCmpFunc_Row_93_15 (R := R), LoopTells Tryd.prog (extT [(93, gF S_slices_symMergeCmpFunc_Row mr)] X114) M_slices_symMergeCmpFunc_Row L_slices_symMergeCmpFunc_Row e.2.1 (L_slices_symMergeCmpFunc_Row e.1) (bodyOf Tryd.prog e.1 e.2.2.1) e.2.2.2 := List.forall_mem_cons.2 ⟨lo_slices_symMergeCmpFunc_Row_93_15 mr, (lk_slices_symMergeCmpFunc_Row_93_9 mr)⟩
noncomputable def rd_slices_symMergeCmpFunc_Row_93_21 : List U → Rt
  | [.i v0, .i v1, .l v2] =>
    (.test (decide (v1 > v0))
    (.test (inR (w64 (v1 - (1 : Int))) (ln v2))
    (.test (decide (Int.toNat (w64 (v1 - (1 : Int))) < List.length v2))
    (.test (inR v1 (ln v2))
    (.test (decide (Int.toNat v1 < List.length v2))
    (.test (inR v1 (ln v2))
    (.test (decide (Int.toNat v1 < List.length v2))
    (.test (inR (w64 (v1 - (1 : Int))) (ln (List.set v2 (Int.toNat v1) (setCells (el v2 v1) 0 [PV.lst 25 (cL (el v2 (w64 (v1 - (1 : Int)))) 0)]))))
    (.test (decide (Int.toNat (w64 (v1 - (1 : Int))) < List.length (List.set v2 (Int.toNat v1) (setCells (el v2 v1) 0 [PV.lst 25 (cL (el v2 (w64 (v1 - (1 : Int)))) 0)]))))
    (.next [.i v0, .i (w64 (v1 - (1 : Int))), .l (List.set (List.set v2 (Int.toNat v1) (setCells (el v2 v1) 0 [PV.lst 25 (cL (el v2 (w64 (v1 - (1 : Int)))) 0)])) (Int.toNat (w64 (v1 - (1 : Int)))) (setCells (el (List.set v2 (Int.toNat v1) (setCells (el v2 v1) 0 [PV.lst 25 (cL (el v2 (w64 (v1 - (1 : Int)))) 0)])) (w64 (v1 - (1 : Int)))) 0 [PV.lst 25 (cL (el v2 v1) 0)]))])
    .fail)
    .fail)
    .fail)
    .fail)
    .fail)
    .fail)
    .fail)
    .fail)
    (.stop 0 [.l v2]))
  | _ => .fail
def sp_slices_symMergeCmpFunc_Row_93_21 : LSp := ⟨220, ⟨[(0, .one (.all 0)), (14, .one (.i .i64)), (17, .one (.i .i64))], [.arr 46 true]⟩, [(.exit 6, ⟨[], [.arr 46 true]⟩)]⟩
set_option maxRecDepth 100000 in
theorem rq_slices_symMergeCmpFunc_Row_93_21 (mr : List U → Rt) (v0 : Int) (v1 : Int) (v2 : List (List PV)) : runK br Tryd.prog (callK br Tryd.prog (extT [(93, gF S_slices_symMergeCmpFunc_Row mr)] X114) M_slices_symMergeCmpFunc_Row L_slices_symMergeCmpFunc_Row (lsT ll_slices_symMergeCmpFunc_Row_93_15) 40) M_slices_symMergeCmpFunc_Row (lsT ll_slices_symMergeCmpFunc_Row_93_15 93 1) 40 1 (L_slices_symMergeCmpFunc_Row 93) (bodyOf Tryd.prog 93 21) (sp_slices_symMergeCmpFunc_Row_93_21.s.ts sp_slices_symMergeCmpFunc_Row_93_21.n [.i v0, .i v1, .l v2]) (sp_slices_symMergeCmpFunc_Row_93_21.s.h [.i v0, .i v1, .l v2]) (idc Tryd.prog 1 (L_slices_symMergeCmpFunc_Row 93) 21) =
    (rd_slices_symMergeCmpFunc_Row_93_21 [.i v0, .i v1, .l v2]).go br (fun us' => some (.normal, sp_slices_symMergeCmpFunc_Row_93_21.s.ts sp_slices_symMergeCmpFunc_Row_93_21.n us', sp_slices_symMergeCmpFunc_Row_93_21.s.h us')) sp_slices_symMergeCmpFunc_Row_93_21.fin := by
  rw [← callF_eq, ← runF_eq]; kernel_rfl
theorem lo_slices_symMergeCmpFunc_Row_93_21 {R : Type} (mr : List U → Rt) : LoopTells Tryd.prog (extT [(93, gF S_slices_symMergeCmpFunc_Row mr)] X114) M_slices_symMergeCmpFunc_Row L_slices_symMergeCmpFunc_Row 1 (L_slices_symMergeCmpFunc_Row 93) (bodyOf Tryd.prog 93 21) (gL (R := R) sp_slices_symMergeCmpFunc_Row_93_21 rd_slices_symMergeCmpFunc_Row_93_21 br) :=
  loopTold (callK_ev (loopsOK_list rids (lk_slices_symMergeCmpFunc_Row_93_15 mr)) 40) (lsokIn (loopsOK_list rids (lk_slices_symMergeCmpFunc_Row_93_15 mr)) 93 1 21) (by kernel_rfl) sp_slices_symMergeCmpFunc_Row_93_21 rd_slices_symMergeCmpFunc_Row_93_21 rfl (by kernel_rfl) (by
    intro us v h; unfold rd_slices_symMergeCmpFunc_Row_93_21 at h; split at h
    · rename_i v0 v1 v2; exact rq_slices_symMergeCmpFunc_Row_93_21 mr v0 v1 v2
    · cases h)
noncomputable abbrev ll_slices_symMergeCmpFunc_Row_93_21 {R : Type} : List (Nat × Nat × Nat × Smy R) := (93, 1, 21, gL sp_slices_symMergeCmpFunc_Row_93_21 rd_slices_symMergeCmpFunc_Row_93_21 br) :: ll_slices_symMergeCmpFunc_Row_93_15
theorem lk_slices_symMergeCmpFunc_Row_93_21 {R : Type} (mr : List U → Rt) : ∀ e ∈ ll_slices_symMergeCmpFunc_Row_93_21 (R := R), LoopTells Tryd.prog (extT [(93, gF S_slices_symMergeCmpFunc_Row mr)] X114) M_slices_symMergeCmpFunc_Row L_slices_symMergeCmpFunc_Row e.2.1 (L_slices_symMergeCmpFunc_Row e.1) (bodyOf Tryd.prog e.1 e.2.2.1) e.2.2.2 := List.forall_mem_cons.2 ⟨lo_slices_symMergeCmpFunc_Row_93_21 mr, (lk_slices_symMergeCmpFunc_Row_93_15 mr)⟩
noncomputable def rd_slices_symMergeCmpFunc_Row_93_33 : List U → Rt
  | [.i v0, .i v1, .i v2, .i v3, .i v4, .i v5, .i v6, .i v7, .l v8] =>
    (.test (decide (v5 < v6))
    (.test (inR (w64 (v7 - w64 (Int.fdiv (IntKind.wrap IntKind.u64 (w64 (v5 + v6))) (2 : Int)))) (ln v8))
    (.test (decide (Int.toNat (w64 (v7 - w64 (Int.fdiv (IntKind.wrap IntKind.u64 (w64 (v5 + v6))) (2 : Int)))) < List.length v8))
    (.test (inR (w64 (Int.fdiv (IntKind.wrap IntKind.u64 (w64 (v5 + v6))) (2 : Int))) (ln v8))
    (.test (decide (Int.toNat (w64 (Int.fdiv (IntKind.wrap IntKind.u64 (w64 (v5 + v6))) (2 : Int))) < List.length v8))
    (let r0 : Rs := (Rt.res (m_row_Compare [U.l (cL (el v8 (w64 (v7 - w64 (Int.fdiv (IntKind.wrap IntKind.u64 (w64 (v5 + v6))) (2 : Int))))) 0), U.l (cL (el v8 (w64 (Int.fdiv (IntKind.wrap IntKind.u64 (w64 (v5 + v6))) (2 : Int)))) 0)]))
    (.test (ok r0 0)
    (.test (!decide (uI (out r0 0) 0 < (0 : Int)))
    (.next [.i v0, .i v1, .i v2, .i v3, .i v4, .i (w64 (w64 (Int.fdiv (IntKind.wrap IntKind.u64 (w64 (v5 + v6))) (2 : Int)) + (1 : Int))), .i v6, .i v7, .l v8])
    (.next [.i v0, .i v1, .i v2, .i v3, .i v4, .i v5, .i (w64 (Int.fdiv (IntKind.wrap IntKind.u64 (w64 (v5 + v6))) (2 : Int))), .i v7, .l v8]))
    .fail))
    .fail)
    .fail)
    .fail)
    .fail)
    (.stop 0 [.i v0, .i v1, .i v2, .i v3, .i v4, .i v5, .l v8]))
  | _ => .fail
def sp_slices_symMergeCmpFunc_Row_93_33 : LSp := ⟨220, ⟨[(0, .one (.all 0)), (1, .one (.i .i64)), (2, .one (.i .i64)), (3, .one (.i .i64)), (4, .fn 63 []), (18, .one (.i .i64)), (19, .one (.i .i64)), (20, .one (.i .i64)), (21, .one (.i .i64)), (22, .one (.i .i64))], [.arr 46 true]⟩, [(.exit 8, ⟨[(0, .one (.all 0)), (1, .one (.i .i64)), (2, .one (.i .i64)), (3, .one (.i .i64)), (4, .fn 63 []), (18, .one (.i .i64)), (19, .one (.i .i64)), (20, .one (.i .i64))], [.arr 46 true]⟩)]⟩
set_option maxRecDepth 100000 in
theorem rq_slices_symMergeCmpFunc_Row_93_33 (mr : List U → Rt) (v0 : Int) (v1 : Int) (v2 : Int) (v3 : Int) (v4 : Int) (v5 : Int) (v6 : Int) (v7 : Int) (v8 : List (List PV)) : runK br Tryd.prog (callK br Tryd.prog (extT [(93, gF S_slices_symMergeCmpFunc_Row mr)] X114) M_slices_symMergeCmpFunc_Row L_slices_symMergeCmpFunc_Row (lsT ll_slices_symMergeCmpFunc_Row_93_21) 40) M_slices_symMergeCmpFunc_Row (lsT ll_slices_symMergeCmpFunc_Row_93_21 93 1) 40 1 (L_slices_symMergeCmpFunc_Row 93) (bodyOf Tryd.prog 93 33) (sp_slices_symMergeCmpFunc_Row_93_33.s.ts sp_slices_symMergeCmpFunc_Row_93_33.n [.i v0, .i v1, .i v2, .i v3, .i v4, .i v5, .i v6, .i v7, .l v8]) (sp_slices_symMergeCmpFunc_Row_93_33.s.h [.i v0, .i v1, .i v2, .i v3, .i v4, .i v5, .i v6, .i v7, .l v8]) (idc Tryd.prog 1 (L_slices_symMergeCmpFunc_Row 93) 33) =
    (rd_slices_symMergeCmpFunc_Row_93_33 [.i v0, .i v1, .i v2, .i v3, .i v4, .i v5, .i v6, .i v7, .l v8]).go br (fun us' => some (.normal, sp_slices_symMergeCmpFunc_Row_93_33.s.ts sp_slices_symMergeCmpFunc_Row_93_33.n us', sp_slices_symMergeCmpFunc_Row_93_33.s.h us')) sp_slices_symMergeCmpFunc_Row_93_33.fin := by
  rw [← callF_eq, ← runF_eq]; kernel_rfl
theorem lo_slices_symMergeCmpFunc_Row_93_33 {R : Type} (mr : List U → Rt) : LoopTells Tryd.prog (extT [(93, gF S_slices_symMergeCmpFunc_Row mr)] X114) M_slices_symMergeCmpFunc_Row L_slices_symMergeCmpFunc_Row 1 (L_slices_symMergeCmpFunc_Row 93) (bodyOf Tryd.prog 93 33) (gL (R := R) sp_slices_symMergeCmpFunc_Row_93_33 rd_slices_symMergeCmpFunc_Row_93_33 br) :=
  loopTold (callK_ev (loopsOK_list rids (lk_slices_symMergeCmpFunc_Row_93_21 mr)) 40) (lsokIn (loopsOK_list rids (lk_slices_symMergeCmpFunc_Row_93_21 mr)) 93 1 33) (by kernel_rfl) sp_slices_symMergeCmpFunc_Row_93_33 rd_slices_symMergeCmpFunc_Row_93_33 rfl (by kernel_rfl) (by
    intro us v h; unfold rd_slices_symMergeCmpFunc_Row_93_33 at h; split at h
    · rename_i v0 v1 v2 v3 v4 v5 v6 v7 v8; exact rq_slices_symMergeCmpFunc_Row_93_33 mr v0 v1 v2 v3 v4 v5 v6 v7 v8
    · cases h)
noncomputable abbrev ll_slices_symMergeCmpFunc_Row_93_33 {R : Type} : List (Nat × Nat × Nat × Smy R) := (93, 1, 33, gL sp_slices_symMergeCmpFunc_Row_93_33 rd_slices_symMergeCmpFunc_Row_93_33 br) :: ll_slices_symMergeCmpFunc_Row_93_21
theorem lk_slices_symMergeCmpFunc_Row_93_33 {R : Type} (mr : List U → Rt) : ∀ e ∈ ll_slices_symMergeCmpFunc_Row_93_33 (R := R), LoopTells Tryd.prog (extT [(93, gF S_slices_symMergeCmpFunc_Row mr)] X114) M_slices_symMergeCmpFunc_Row L_slices_symMergeCmpFunc_Row e.2.1 (L_slices_symMergeCmpFunc_Row e.1) (bodyOf Tryd.prog e.1 e.2.2.1) e.2.2.2 := List.forall_mem_cons.2 ⟨lo_slices_symMergeCmpFunc_Row_93_33 mr, (lk_slices_symMergeCmpFunc_Row_93_21 mr)⟩
noncomputable def s_slices_symMergeCmpFunc_Row (mr : List U → Rt) : List U → Rt
  | [.i v0, .i v1, .i v2, .l v3] =>
    (.test (w64 (v1 - v0) == (1 : Int))
    (let r0 : Rs := (lres rd_slices_symMergeCmpFunc_Row_93_3 [U.i v0, U.i v1, U.i v2, U.l v3])
    (.test (ok r0 0)
    (let r1 : Rs := (lres rd_slices_symMergeCmpFunc_Row_93_9 [U.i (uI (out r0 0) 1), U.i (uI (out r0 0) 0), U.l (uL (out r0 0) 2)])
    (.test (ok r1 0)
    (.stop 0 [.l (uL (out r1 0) 0)])
    .fail))
    .fail))
    (.test (w64 (v2 - v1) == (1 : Int))
    (let r2 : Rs := (lres rd_slices_symMergeCmpFunc_Row_93_15 [U.i v1, U.i v0, U.i v1, U.l v3])
    (.test (ok r2 0)
    (let r3 : Rs := (lres rd_slices_symMergeCmpFunc_Row_93_21 [U.i (uI (out r2 0) 1), U.i (uI (out r2 0) 0), U.l (uL (out r2 0) 2)])
    (.test (ok r3 0)
    (.stop 0 [.l (uL (out r3 0) 0)])
    .fail))
    .fail))
    (.test (decide (v1 > w64 (Int.fdiv (IntKind.wrap IntKind.u64 (w64 (v0 + v2))) (2 : Int))))
    (let r4 : Rs := (lres rd_slices_symMergeCmpFunc_Row_93_33 [U.i v0, U.i v1, U.i v2, U.i (w64 (Int.fdiv (IntKind.wrap IntKind.u64 (w64 (v0 + v2))) (2 : Int))), U.i (w64 (w64 (Int.fdiv (IntKind.wrap IntKind.u64 (w64 (v0 + v2))) (2 : Int)) + v1)), U.i (w64 (w64 (w64 (Int.fdiv (IntKind.wrap IntKind.u64 (w64 (v0 + v2))) (2 : Int)) + v1) - v2)), U.i (w64 (Int.fdiv (IntKind.wrap IntKind.u64 (w64 (v0 + v2))) (2 : Int))), U.i (w64 (w64 (w64 (Int.fdiv (IntKind.wrap IntKind.u64 (w64 (v0 + v2))) (2 : Int)) + v1) - (1 : Int))), U.l v3])
    (.test (ok r4 0)
    (.test (decide (uI (out r4 0) 5 < uI (out r4 0) 1))
    (.test (decide (uI (out r4 0) 1 < w64 (uI (out r4 0) 4 - uI (out r4 0) 5)))
    (let r5 : Rs := (Rt.res (m_slices_rotateCmpFunc_Row [U.i (uI (out r4 0) 5), U.i (uI (out r4 0) 1), U.i (w64 (uI (out r4 0) 4 - uI (out r4 0) 5)), U.l (uL (out r4 0) 6)]))
    (.test (ok r5 0)
    (.test (decide (uI (out r4 0) 0 < uI (out r4 0) 5))
    (.test (decide (uI (out r4 0) 5 < uI (out r4 0) 3))
    (let r6 : Rs := (Rt.res (mr [U.i (uI (out r4 0) 0), U.i (uI (out r4 0) 5), U.i (uI (out r4 0) 3), U.l (uL (out r5 0) 0)]))
    (.test (ok r6 0)
    (.test (decide (uI (out r4 0) 3 < w64 (uI (out r4 0) 4 - uI (out r4 0) 5)))
    (.test (decide (w64 (uI (out r4 0) 4 - uI (out r4 0) 5) < uI (out r4 0) 2))
    (let r7 : Rs := (Rt.res (mr [U.i (uI (out r4 0) 3), U.i (w64 (uI (out r4 0) 4 - uI (out r4 0) 5)), U.i (uI (out r4 0) 2), U.l (uL (out r6 0) 0)]))
    (.test (ok r7 0)
    (.stop 0 [.l (uL (out r7 0) 0)])
    .fail))
    (.stop 0 [.l (uL (out r6 0) 0)]))
    (.stop 0 [.l (uL (out r6 0) 0)]))
    .fail))
    (.test (decide (uI (out r4 0) 3 < w64 (uI (out r4 0) 4 - uI (out r4 0) 5)))
    (.test (decide (w64 (uI (out r4 0) 4 - uI (out r4 0) 5) < uI (out r4 0) 2))
    (let r8 : Rs := (Rt.res (mr [U.i (uI (out r4 0) 3), U.i (w64 (uI (out r4 0) 4 - uI (out r4 0) 5)), U.i (uI (out r4 0) 2), U.l (uL (out r5 0) 0)]))
    (.test (ok r8 0)
    (.stop 0 [.l (uL (out r8 0) 0)])
    .fail))
    (.stop 0 [.l (uL (out r5 0) 0)]))
    (.stop 0 [.l (uL (out r5 0) 0)])))
    (.test (decide (uI (out r4 0) 3 < w64 (uI (out r4 0) 4 - uI (out r4 0) 5)))
    (.test (decide (w64 (uI (out r4 0) 4 - uI (out r4 0) 5) < uI (out r4 0) 2))
    (let r9 : Rs := (Rt.res (mr [U.i (uI (out r4 0) 3), U.i (w64 (uI (out r4 0) 4 - uI (out r4 0) 5)), U.i (uI (out r4 0) 2), U.l (uL (out r5 0) 0)]))
    (.test (ok r9 0)
    (.stop 0 [.l (uL (out r9 0) 0)])
    .fail))
    (.stop 0 [.l (uL (out r5 0) 0)]))
    (.stop 0 [.l (uL (out r5 0) 0)])))
    .fail))
    (.test (decide (uI (out r4 0) 0 < uI (out r4 0) 5))
    (.test (decide (uI (out r4 0) 5 < uI (out r4 0) 3))
    (let r10 : Rs := (Rt.res (mr [U.i (uI (out r4 0) 0), U.i (uI (out r4 0) 5), U.i (uI (out r4 0) 3), U.l (uL (out r4 0) 6)]))
    (.test (ok r10 0)
    (.test (decide (uI (out r4 0) 3 < w64 (uI (out r4 0) 4 - uI (out r4 0) 5)))
    (.test (decide (w64 (uI (out r4 0) 4 - uI (out r4 0) 5) < uI (out r4 0) 2))
    (let r11 : Rs := (Rt.res (mr [U.i (uI (out r4 0) 3), U.i (w64 (uI (out r4 0) 4 - uI (out r4 0) 5)), U.i (uI (out r4 0) 2), U.l (uL (out r10 0) 0)]))
    (.test (ok r11 0)
    (.stop 0 [.l (uL (out r11 0) 0)])
    .fail))
    (.stop 0 [.l (uL (out r10 0) 0)]))
    (.stop 0 [.l (uL (out r10 0) 0)]))
    .fail))
    (.test (decide (uI (out r4 0) 3 < w64 (uI (out r4 0) 4 - uI (out r4 0) 5)))
    (.test (decide (w64 (uI (out r4 0) 4 - uI (out r4 0) 5) < uI (out r4 0) 2))
    (let r12 : Rs := (Rt.res (mr [U.i (uI (out r4 0) 3), U.i (w64 (uI (out r4 0) 4 - uI (out r4 0) 5)), U.i (uI (out r4 0) 2), U.l (uL (out r4 0) 6)]))
    (.test (ok r12 0)
    (.stop 0 [.l (uL (out r12 0) 0)])
    .fail))
    (.stop 0 [.l (uL (out r4 0) 6)]))
    (.stop 0 [.l (uL (out r4 0) 6)])))
    (.test (decide (uI (out r4 0) 3 < w64 (uI (out r4 0) 4 - uI (out r4 0) 5)))
    (.test (decide (w64 (uI (out r4 0) 4 - uI (out r4 0) 5) < uI (out r4 0) 2))
    (let r13 : Rs := (Rt.res (mr [U.i (uI (out r4 0) 3), U.i (w64 (uI (out r4 0) 4 - uI (out r4 0) 5)), U.i (uI (out r4 0) 2), U.l (uL (out r4 0) 6)]))
    (.test (ok r13 0)
    (.stop 0 [.l (uL (out r13 0) 0)])
    .fail))
    (.stop 0 [.l (uL (out r4 0) 6)]))
    (.stop 0 [.l (uL (out r4 0) 6)]))))
    (.test (decide (uI (out r4 0) 0 < uI (out r4 0) 5))
    (.test (decide (uI (out r4 0) 5 < uI (out r4 0) 3))
    (let r14 : Rs := (Rt.res (mr [U.i (uI (out r4 0) 0), U.i (uI (out r4 0) 5), U.i (uI (out r4 0) 3), U.l (uL (out r4 0) 6)]))
    (.test (ok r14 0)
    (.test (decide (uI (out r4 0) 3 < w64 (uI (out r4 0) 4 - uI (out r4 0) 5)))
    (.test (decide (w64 (uI (out r4 0) 4 - uI (out r4 0) 5) < uI (out r4 0) 2))
    (let r15 : Rs := (Rt.res (mr [U.i (uI (out r4 0) 3), U.i (w64 (uI (out r4 0) 4 - uI (out r4 0) 5)), U.i (uI (out r4 0) 2), U.l (uL (out r14 0) 0)]))
    (.test (ok r15 0)
    (.stop 0 [.l (uL (out r15 0) 0)])
    .fail))
    (.stop 0 [.l (uL (out r14 0) 0)]))
    (.stop 0 [.l (uL (out r14 0) 0)]))
    .fail))
    (.test (decide (uI (out r4 0) 3 < w64 (uI (out r4 0) 4 - uI (out r4 0) 5)))
    (.test (decide (w64 (uI (out r4 0) 4 - uI (out r4 0) 5) < uI (out r4 0) 2))
    (let r16 : Rs := (Rt.res (mr [U.i (uI (out r4 0) 3), U.i (w64 (uI (out r4 0) 4 - uI (out r4 0) 5)), U.i (uI (out r4 0) 2), U.l (uL (out r4 0) 6)]))
    (.test (ok r16 0)
    (.stop 0 [.l (uL (out r16 0) 0)])
    .fail))
    (.stop 0 [.l (uL (out r4 0) 6)]))
    (.stop 0 [.l (uL (out r4 0) 6)])))
    (.test (decide (uI (out r4 0) 3 < w64 (uI (out r4 0) 4 - uI (out r4 0) 5)))
    (.test (decide (w64 (uI (out r4 0) 4 - uI (out r4 0) 5) < uI (out r4 0) 2))
    (let r17 : Rs := (Rt.res (mr [U.i (uI (out r4 0) 3), U.i (w64 (uI (out r4 0) 4 - uI (out r4 0) 5)), U.i (uI (out r4 0) 2), U.l (uL (out r4 0) 6)]))
    (.test (ok r17 0)
    (.stop 0 [.l (uL (out r17 0) 0)])
    .fail))
    (.stop 0 [.l (uL (out r4 0) 6)]))
    (.stop 0 [.l (uL (out r4 0) 6)]))))
    .fail))
    (let r18 : Rs := (lres rd_slices_symMergeCmpFunc_Row_93_33 [U.i v0, U.i v1, U.i v2, U.i (w64 (Int.fdiv (IntKind.wrap IntKind.u64 (w64 (v0 + v2))) (2 : Int))), U.i (w64 (w64 (Int.fdiv (IntKind.wrap IntKind.u64 (w64 (v0 + v2))) (2 : Int)) + v1)), U.i v0, U.i v1, U.i (w64 (w64 (w64 (Int.fdiv (IntKind.wrap IntKind.u64 (w64 (v0 + v2))) (2 : Int)) + v1) - (1 : Int))), U.l v3])
    (.test (ok r18 0)
    (.test (decide (uI (out r18 0) 5 < uI (out r18 0) 1))
    (.test (decide (uI (out r18 0) 1 < w64 (uI (out r18 0) 4 - uI (out r18 0) 5)))
    (let r19 : Rs := (Rt.res (m_slices_rotateCmpFunc_Row [U.i (uI (out r18 0) 5), U.i (uI (out r18 0) 1), U.i (w64 (uI (out r18 0) 4 - uI (out r18 0) 5)), U.l (uL (out r18 0) 6)]))
    (.test (ok r19 0)
    (.test (decide (uI (out r18 0) 0 < uI (out r18 0) 5))
    (.test (decide (uI (out r18 0) 5 < uI (out r18 0) 3))
    (let r20 : Rs := (Rt.res (mr [U.i (uI (out r18 0) 0), U.i (uI (out r18 0) 5), U.i (uI (out r18 0) 3), U.l (uL (out r19 0) 0)]))
    (.test (ok r20 0)
    (.test (decide (uI (out r18 0) 3 < w64 (uI (out r18 0) 4 - uI (out r18 0) 5)))
    (.test (decide (w64 (uI (out r18 0) 4 - uI (out r18 0) 5) < uI (out r18 0) 2))
    (let r21 : Rs := (Rt.res (mr [U.i (uI (out r18 0) 3), U.i (w64 (uI (out r18 0) 4 - uI (out r18 0) 5)), U.i (uI (out r18 0) 2), U.l (uL (out r20 0) 0)]))
    (.test (ok r21 0)
    (.stop 0 [.l (uL (out r21 0) 0)])
    .fail))
    (.stop 0 [.l (uL (out r20 0) 0)]))
    (.stop 0 [.l (uL (out r20 0) 0)]))
    .fail))
    (.test (decide (uI (out r18 0) 3 < w64 (uI (out r18 0) 4 - uI (out r18 0) 5)))
    (.test (decide (w64 (uI (out r18 0) 4 - uI (out r18 0) 5) < uI (out r18 0) 2))
    (let r22 : Rs := (Rt.res (mr [U.i (uI (out r18 0) 3), U.i (w64 (uI (out r18 0) 4 - uI (out r18 0) 5)), U.i (uI (out r18 0) 2), U.l (uL (out r19 0) 0)]))
    (.test (ok r22 0)
    (.stop 0 [.l (uL (out r22 0) 0)])
    .fail))
    (.stop 0 [.l (uL (out r19 0) 0)]))
    (.stop 0 [.l (uL (out r19 0) 0)])))
    (.test (decide (uI (out r18 0) 3 < w64 (uI (out r18 0) 4 - uI (out r18 0) 5)))
    (.test (decide (w64 (uI (out r18 0) 4 - uI (out r18 0) 5) < uI (out r18 0) 2))
    (let r23 : Rs := (Rt.res (mr [U.i (uI (out r18 0) 3), U.i (w64 (uI (out r18 0) 4 - uI (out r18 0) 5)), U.i (uI (out r18 0) 2), U.l (uL (out r19 0) 0)]))
    (.test (ok r23 0)
    (.stop 0 [.l (uL (out r23 0) 0)])
    .fail))
    (.stop 0 [.l (uL (out r19 0) 0)]))
    (.stop 0 [.l (uL (out r19 0) 0)])))
    .fail))
    (.test (decide (uI (out r18 0) 0 < uI (out r18 0) 5))
    (.test (decide (uI (out r18 0) 5 < uI (out r18 0) 3))
    (let r24 : Rs := (Rt.res (mr [U.i (uI (out r18 0) 0), U.i (uI (out r18 0) 5), U.i (uI (out r18 0) 3), U.l (uL (out r18 0) 6)]))
    (.test (ok r24 0)
    (.test (decide (uI (out r18 0) 3 < w64 (uI (out r18 0) 4 - uI (out r18 0) 5)))
    (.test (decide (w64 (uI (out r18 0) 4 - uI (out r18 0) 5) < uI (out r18 0) 2))
    (let r25 : Rs := (Rt.res (mr [U.i (uI (out r18 0) 3), U.i (w64 (uI (out r18 0) 4 - uI (out r18 0) 5)), U.i (uI (out r18 0) 2), U.l (uL (out r24 0) 0)]))
    (.test (ok r25 0)
    (.stop 0 [.l (uL (out r25 0) 0)])
    .fail))
    (.stop 0 [.l (uL (out r24 0) 0)]))
    (.stop 0 [.l (uL (out r24 0) 0)]))
    .fail))
    (.test (decide (uI (out r18 0) 3 < w64 (uI (out r18 0) 4 - uI (out r18 0) 5)))
    (.test (decide (w64 (uI (out r18 0) 4 - uI (out r18 0) 5) < uI (out r18 0) 2))
    (let r26 : Rs := (Rt.res (mr [U.i (uI (out r18 0) 3), U.i (w64 (uI (out r18 0) 4 - uI (out r18 0) 5)), U.i (uI (out r18 0) 2), U.l (uL (out r18 0) 6)]))
    (.test (ok r26 0)
    (.stop 0 [.l (uL (out r26 0) 0)])
    .fail))
    (.stop 0 [.l (uL (out r18 0) 6)]))
    (.stop 0 [.l (uL (out r18 0) 6)])))
    (.test (decide (uI (out r18 0) 3 < w64 (uI (out r18 0) 4 - uI (out r18 0) 5)))
    (.test (decide (w64 (uI (out r18 0) 4 - uI (out r18 0) 5) < uI (out r18 0) 2))
    (let r27 : Rs := (Rt.res (mr [U.i (uI (out r18 0) 3), U.i (w64 (uI (out r18 0) 4 - uI (out r18 0) 5)), U.i (uI (out r18 0) 2), U.l (uL (out r18 0) 6)]))
    (.test (ok r27 0)
    (.stop 0 [.l (uL (out r27 0) 0)])
    .fail))
    (.stop 0 [.l (uL (out r18 0) 6)]))
    (.stop 0 [.l (uL (out r18 0) 6)]))))
    (.test (decide (uI (out r18 0) 0 < uI (out r18 0) 5))
    (.test (decide (uI (out r18 0) 5 < uI (out r18 0) 3))
    (let r28 : Rs := (Rt.res (mr [U.i (uI (out r18 0) 0), U.i (uI (out r18 0) 5), U.i (uI (out r18 0) 3), U.l (uL (out r18 0) 6)]))
    (.test (ok r28 0)
    (.test (decide (uI (out r18 0) 3 < w64 (uI (out r18 0) 4 - uI (out r18 0) 5)))
    (.test (decide (w64 (uI (out r18 0) 4 - uI (out r18 0) 5) < uI (out r18 0) 2))
    (let r29 : Rs := (Rt.res (mr [U.i (uI (out r18 0) 3), U.i (w64 (uI (out r18 0) 4 - uI (out r18 0) 5)), U.i (uI (out r18 0) 2), U.l (uL (out r28 0) 0)]))
    (.test (ok r29 0)
    (.stop 0 [.l (uL (out r29 0) 0)])
    .fail))
    (.stop 0 [.l (uL (out r28 0) 0)]))
    (.stop 0 [.l (uL (out r28 0) 0)]))
    .fail))
    (.test (decide (uI (out r18 0) 3 < w64 (uI (out r18 0) 4 - uI (out r18 0) 5)))
    (.test (decide (w64 (uI (out r18 0) 4 - uI (out r18 0) 5) < uI (out r18 0) 2))
    (let r30 : Rs := (Rt.res (mr [U.i (uI (out r18 0) 3), U.i (w64 (uI (out r18 0) 4 - uI (out r18 0) 5)), U.i (uI (out r18 0) 2), U.l (uL (out r18 0) 6)]))
    (.test (ok r30 0)
    (.stop 0 [.l (uL (out r30 0) 0)])
    .fail))
    (.stop 0 [.l (uL (out r18 0) 6)]))
    (.stop 0 [.l (uL (out r18 0) 6)])))
    (.test (decide (uI (out r18 0) 3 < w64 (uI (out r18 0) 4 - uI (out r18 0) 5)))
    (.test (decide (w64 (uI (out r18 0) 4 - uI (out r18 0) 5) < uI (out r18 0) 2))
    (let r31 : Rs := (Rt.res (mr [U.i (uI (out r18 0) 3), U.i (w64 (uI (out r18 0) 4 - uI (out r18 0) 5)), U.i (uI (out r18 0) 2), U.l (uL (out r18 0) 6)]))
    (.test (ok r31 0)
    (.stop 0 [.l (uL (out r31 0) 0)])
    .fail))
    (.stop 0 [.l (uL (out r18 0) 6)]))
    (.stop 0 [.l (uL (out r18 0) 6)]))))
    .fail)))))
  | _ => .fail
noncomputable def m_slices_symMergeCmpFunc_Row : List U → Rt := recM s_slices_symMergeCmpFunc_Row 64
set_option maxRecDepth 100000 in
theorem q_slices_symMergeCmpFunc_Row (mr : List U → Rt) (v0 : Int) (v1 : Int) (v2 : Int) (v3 : List (List PV)) : callKB br Tryd.prog (extT [(93, gF S_slices_symMergeCmpFunc_Row mr)] X114) M_slices_symMergeCmpFunc_Row L_slices_symMergeCmpFunc_Row (lsT ll_slices_symMergeCmpFunc_Row_93_33) 60 93 (encs [.i v0, .i v1, .i v2, .l v3] 0 S_slices_symMergeCmpFunc_Row.ap) (encH [.i v0, .i v1, .i v2, .l v3] (ws S_slices_symMergeCmpFunc_Row.ap) S_slices_symMergeCmpFunc_Row.ah) (fun y => fixR Tryd.prog S_slices_symMergeCmpFunc_Row.plan S_slices_symMergeCmpFunc_Row.ah.length y) =
    (s_slices_symMergeCmpFunc_Row mr [.i v0, .i v1, .i v2, .l v3]).go br (fun _ => none) S_slices_symMergeCmpFunc_Row.fin := by
  rw [← callFB_eq]; kernel_rfl
set_option maxRecDepth 100000 in
theorem es_slices_symMergeCmpFunc_Row (mr : List U → Rt) (hr : EOK Tryd.prog 93 (gF S_slices_symMergeCmpFunc_Row mr)) : EOK Tryd.prog 93 (gF S_slices_symMergeCmpFunc_Row (s_slices_symMergeCmpFunc_Row mr)) :=
  eokToldB mixed named (xok1 x114 hr) (loopsOK_list rids (lk_slices_symMergeCmpFunc_Row_93_33 mr)) 60 S_slices_symMergeCmpFunc_Row (s_slices_symMergeCmpFunc_Row mr) (by
    intro us v h; unfold s_slices_symMergeCmpFunc_Row at h; split at h
    · rename_i v0 v1 v2 v3; exact q_slices_symMergeCmpFunc_Row mr v0 v1 v2 v3
    · cases h)
theorem e_slices_symMergeCmpFunc_Row : EOK Tryd.prog 93 (gF S_slices_symMergeCmpFunc_Row m_slices_symMergeCmpFunc_Row) := eokRec es_slices_symMergeCmpFunc_Row 64
noncomputable abbrev X115 : Ext := extT [(93, (gF S_slices_symMergeCmpFunc_Row m_slices_symMergeCmpFunc_Row))] X114
theorem x115 : XOK Tryd.prog X115 := xok1 x114 e_slices_symMergeCmpFunc_Row

/-- slices.stableCmpFunc[levee/api.Row] -/
def L_slices_stableCmpFunc_Row : FuncId → Nat → Option (List Nat) := liveT [(78, 2, [0, 1, 2, 6, 7, 8]), (78, 1000002, [0, 1, 2, 6, 7]), (78, 2000002, []), (78, 9, [0, 1, 2, 6, 7, 8]), (78, 1000009, [0, 1, 2, 6, 7]), (78, 2000009, []), (78, 7, [0, 1, 2, 6]), (78, 1000007, []), (78, 2000007, [])]
def M_slices_stableCmpFunc_Row : FuncId → Bool := fun f => f == 93 || f == 92
noncomputable def rd_slices_stableCmpFunc_Row_78_2 : List U → Rt
  | [.i v0, .i v1, .i v2, .i v3, .l v4] =>
    (.test (decide (v3 ≤ v0))
    (let r0 : Rs := (Rt.res (m_slices_insertionSortCmpFunc_Row [U.i v2, U.i v3, U.l v4]))
    (.test (ok r0 0)
    (.next [.i v0, .i v1, .i v3, .i (w64 (v3 + v1)), .l (uL (out r0 0) 0)])
    .fail))
    (.stop 0 [.i v0, .i v1, .i v2, .l v4]))
  | _ => .fail
def sp_slices_stableCmpFunc_Row_78_2 : LSp := ⟨63, ⟨[(0, .one (.all 0)), (1, .one (.i .i64)), (2, .fn 63 []), (6, .one (.i .i64)), (7, .one (.i .i64)), (8, .one (.i .i64))], [.arr 46 true]⟩, [(.exit 0, ⟨[(0, .one (.all 0)), (1, .one (.i .i64)), (2, .fn 63 []), (6, .one (.i .i64)), (7, .one (.i .i64))], [.arr 46 true]⟩)]⟩
set_option maxRecDepth 100000 in
theorem rq_slices_stableCmpFunc_Row_78_2 (v0 : Int) (v1 : Int) (v2 : Int) (v3 : Int) (v4 : List (List PV)) : runK br Tryd.prog (callK br Tryd.prog X115 M_slices_stableCmpFunc_Row L_slices_stableCmpFunc_Row (lsT []) 40) M_slices_stableCmpFunc_Row (lsT [] 78 1) 40 1 (L_slices_stableCmpFunc_Row 78) (bodyOf Tryd.prog 78 2) (sp_slices_stableCmpFunc_Row_78_2.s.ts sp_slices_stableCmpFunc_Row_78_2.n [.i v0, .i v1, .i v2, .i v3, .l v4]) (sp_slices_stableCmpFunc_Row_78_2.s.h [.i v0, .i v1, .i v2, .i v3, .l v4]) (idc Tryd.prog 1 (L_slices_stableCmpFunc_Row 78) 2) =
    (rd_slices_stableCmpFunc_Row_78_2 [.i v0, .i v1, .i v2, .i v3, .l v4]).go br (fun us' => some (.normal, sp_slices_stableCmpFunc_Row_78_2.s.ts sp_slices_stableCmpFunc_Row_78_2.n us', sp_slices_stableCmpFunc_Row_78_2.s.h us')) sp_slices_stableCmpFunc_Row_78_2.fin := by
  rw [← callF_eq, ← runF_eq]; kernel_rfl
theorem lo_slices_stableCmpFunc_Row_78_2 {R : Type} : LoopTells Tryd.prog X115 M_slices_stableCmpFunc_Row L_slices_stableCmpFunc_Row 1 (L_slices_stableCmpFunc_Row 78) (bodyOf Tryd.prog 78 2) (gL (R := R) sp_slices_stableCmpFunc_Row_78_2 rd_slices_stableCmpFunc_Row_78_2 br) :=
  loopTold (callK_ev (loopsOK_list rids noneIn) 40) (lsokIn (loopsOK_list rids noneIn) 78 1 2) (by kernel_rfl) sp_slices_stableCmpFunc_Row_78_2 rd_slices_stableCmpFunc_Row_78_2 rfl (by kernel_rfl) (by
    intro us v h; unfold rd_slices_stableCmpFunc_Row_78_2 at h; split at h
    · rename_i v0 v1 v2 v3 v4; exact rq_slices_stableCmpFunc_Row_78_2 v0 v1 v2 v3 v4
    · cases h)
noncomputable abbrev ll_slices_stableCmpFunc_Row_78_2 {R : Type} : List (Nat × Nat × Nat × Smy R) := (78, 1, 2, gL sp_slices_stableCmpFunc_Row_78_2 rd_slices_stableCmpFunc_Row_78_2 br) :: []
theorem lk_slices_stableCmpFunc_Row_78_2 {R : Type} : ∀ e ∈ ll_slices_stableCmpFunc_Row_78_2 (R := R), LoopTells Tryd.prog X115 M_slices_stableCmpFunc_Row L_slices_stableCmpFunc_Row e.2.1 (L_slices_stableCmpFunc_Row e.1) (bodyOf Tryd.prog e.1 e.2.2.1) e.2.2.2 := List.forall_mem_cons.2 ⟨lo_slices_stableCmpFunc_Row_78_2, noneIn⟩
noncomputable def rd_slices_stableCmpFunc_Row_78_9 : List U → Rt
  | [.i v0, .i v1, .i v2, .i v3, .l v4] =>
    (.test (decide (v3 ≤ v0))
    (let r0 : Rs := (Rt.res (m_slices_symMergeCmpFunc_Row [U.i v2, U.i (w64 (v2 + v1)), U.i v3, U.l v4]))
    (.test (ok r0 0)
    (.next [.i v0, .i v1, .i v3, .i (w64 (v3 + w64 ((2 : Int) * v1))), .l (uL (out r0 0) 0)])
    .fail))
    (.stop 0 [.i v0, .i v1, .i v2, .l v4]))
  | _ => .fail
def sp_slices_stableCmpFunc_Row_78_9 : LSp := ⟨63, ⟨[(0, .one (.all 0)), (1, .one (.i .i64)), (2, .fn 63 []), (6, .one (.i .i64)), (7, .one (.i .i64)), (8, .one (.i .i64))], [.arr 46 true]⟩, [(.exit 4, ⟨[(0, .one (.all 0)), (1, .one (.i .i64)), (2, .fn 63 []), (6, .one (.i .i64)), (7, .one (.i .i64))], [.arr 46 true]⟩)]⟩
set_option maxRecDepth 100000 in
theorem rq_slices_stableCmpFunc_Row_78_9 (v0 : Int) (v1 : Int) (v2 : Int) (v3 : Int) (v4 : List (List PV)) : runK br Tryd.prog (callK br Tryd.prog X115 M_slices_stableCmpFunc_Row L_slices_stableCmpFunc_Row (lsT ll_slices_stableCmpFunc_Row_78_2) 40) M_slices_stableCmpFunc_Row (lsT ll_slices_stableCmpFunc_Row_78_2 78 1) 40 1 (L_slices_stableCmpFunc_Row 78) (bodyOf Tryd.prog 78 9) (sp_slices_stableCmpFunc_Row_78_9.s.ts sp_slices_stableCmpFunc_Row_78_9.n [.i v0, .i v1, .i v2, .i v3, .l v4]) (sp_slices_stableCmpFunc_Row_78_9.s.h [.i v0, .i v1, .i v2, .i v3, .l v4]) (idc Tryd.prog 1 (L_slices_stableCmpFunc_Row 78) 9) =
    (rd_slices_stableCmpFunc_Row_78_9 [.i v0, .i v1, .i v2, .i v3, .l v4]).go br (fun us' => some (.normal, sp_slices_stableCmpFunc_Row_78_9.s.ts sp_slices_stableCmpFunc_Row_78_9.n us', sp_slices_stableCmpFunc_Row_78_9.s.h us')) sp_slices_stableCmpFunc_Row_78_9.fin := by
  rw [← callF_eq, ← runF_eq]; kernel_rfl
theorem lo_slices_stableCmpFunc_Row_78_9 {R : Type} : LoopTells Tryd.prog X115 M_slices_stableCmpFunc_Row L_slices_stableCmpFunc_Row 1 (L_slices_stableCmpFunc_Row 78) (bodyOf Tryd.prog 78 9) (gL (R := R) sp_slices_stableCmpFunc_Row_78_9 rd_slices_stableCmpFunc_Row_78_9 br) :=
  loopTold (callK_ev (loopsOK_list rids lk_slices_stableCmpFunc_Row_78_2) 40) (lsokIn (loopsOK_list rids lk_slices_stableCmpFunc_Row_78_2) 78 1 9) (by kernel_rfl) sp_slices_stableCmpFunc_Row_78_9 rd_slices_stableCmpFunc_Row_78_9 rfl (by kernel_rfl) (by
    intro us v h; unfold rd_slices_stableCmpFunc_Row_78_9 at h; split at h
    · rename_i v0 v1 v2 v3 v4; exact rq_slices_stableCmpFunc_Row_78_9 v0 v1 v2 v3 v4
    · cases h)
noncomputable abbrev ll_slices_stableCmpFunc_Row_78_9 {R : Type} : List (Nat × Nat × Nat × Smy R) := (78, 1, 9, gL sp_slices_stableCmpFunc_Row_78_9 rd_slices_stableCmpFunc_Row_78_9 br) :: ll_slices_stableCmpFunc_Row_78_2
theorem lk_slices_stableCmpFunc_Row_78_9 {R : Type} : ∀ e ∈ ll_slices_stableCmpFunc_Row_78_9 (R := R), LoopTells Tryd.prog X115 M_slices_stableCmpFunc_Row L_slices_stableCmpFunc_Row e.2.1 (L_slices_stableCmpFunc_Row e.1) (bodyOf Tryd.prog e.1 e.2.2.1) e.2.2.2 := List.forall_mem_cons.2 ⟨lo_slices_stableCmpFunc_Row_78_9, lk_slices_stableCmpFunc_Row_78_2⟩
noncomputable def rd_slices_stableCmpFunc_Row_78_7 : List U → Rt
  | [.i v0, .i v1, .l v2] =>
    (.test (decide (v1 < v0))
    (let r0 : Rs := (lres rd_slices_stableCmpFunc_Row_78_9 [U.i v0, U.i v1, U.i (0 : Int), U.i (w64 ((2 : Int) * v1)), U.l v2])
    (.test (ok r0 0)
    (.test (decide (w64 (uI (out r0 0) 2 + uI (out r0 0) 1) < uI (out r0 0) 0))
    (let r1 : Rs := (Rt.res (m_slices_symMergeCmpFunc_Row [U.i (uI (out r0 0) 2), U.i (w64 (uI (out r0 0) 2 + uI (out r0 0) 1)), U.i (uI (out r0 0) 0), U.l (uL (out r0 0) 3)]))
    (.test (ok r1 0)
    (.next [.i (uI (out r0 0) 0), .i (w64 (uI (out r0 0) 1 * (2 : Int))), .l (uL (out r1 0) 0)])
    .fail))
    (.next [.i (uI (out r0 0) 0), .i (w64 (uI (out r0 0) 1 * (2 : Int))), .l (uL (out r0 0) 3)]))
    .fail))
    (.stop 0 [.l v2]))
  | _ => .fail
def sp_slices_stableCmpFunc_Row_78_7 : LSp := ⟨63, ⟨[(0, .one (.all 0)), (1, .one (.i .i64)), (2, .fn 63 []), (6, .one (.i .i64))], [.arr 46 true]⟩, [(.exit 2, ⟨[], [.arr 46 true]⟩)]⟩
set_option maxRecDepth 100000 in
theorem rq_slices_stableCmpFunc_Row_78_7 (v0 : Int) (v1 : Int) (v2 : List (List PV)) : runK br Tryd.prog (callK br Tryd.prog X115 M_slices_stableCmpFunc_Row L_slices_stableCmpFunc_Row (lsT ll_slices_stableCmpFunc_Row_78_9) 40) M_slices_stableCmpFunc_Row (lsT ll_slices_stableCmpFunc_Row_78_9 78 1) 40 1 (L_slices_stableCmpFunc_Row 78) (bodyOf Tryd.prog 78 7) (sp_slices_stableCmpFunc_Row_78_7.s.ts sp_slices_stableCmpFunc_Row_78_7.n [.i v0, .i v1, .l v2]) (sp_slices_stableCmpFunc_Row_78_7.s.h [.i v0, .i v1, .l v2]) (idc Tryd.prog 1 (L_slices_stableCmpFunc_Row 78) 7) =
    (rd_slices_stableCmpFunc_Row_78_7 [.i v0, .i v1, .l v2]).go br (fun us' => some (.normal, sp_slices_stableCmpFunc_Row_78_7.s.ts sp_slices_stableCmpFunc_Row_78_7.n us', sp_slices_stableCmpFunc_Row_78_7.s.h us')) sp_slices_stableCmpFunc_Row_78_7.fin := by
  rw [← callF_eq, ← runF_eq]; kernel_rfl
theorem lo_slices_stableCmpFunc_Row_78_7 {R : Type} : LoopTells Tryd.prog X115 M_slices_stableCmpFunc_Row L_slices_stableCmpFunc_Row 1 (L_slices_stableCmpFunc_Row 78) (bodyOf Tryd.prog 78 7) (gL (R := R) sp_slices_stableCmpFunc_Row_78_7 rd_slices_stableCmpFunc_Row_78_7 br) :=
  loopTold (callK_ev (loopsOK_list rids lk_slices_stableCmpFunc_Row_78_9) 40) (lsokIn (loopsOK_list rids lk_slices_stableCmpFunc_Row_78_9) 78 1 7) (by kernel_rfl) sp_slices_stableCmpFunc_Row_78_7 rd_slices_stableCmpFunc_Row_78_7 rfl (by kernel_rfl) (by
    intro us v h; unfold rd_slices_stableCmpFunc_Row_78_7 at h; split at h
    · rename_i v0 v1 v2; exact rq_slices_stableCmpFunc_Row_78_7 v0 v1 v2
    · cases h)
noncomputable abbrev ll_slices_stableCmpFunc_Row_78_7 {R : Type} : List (Nat × Nat × Nat × Smy R) := (78, 1, 7, gL sp_slices_stableCmpFunc_Row_78_7 rd_slices_stableCmpFunc_Row_78_7 br) :: ll_slices_stableCmpFunc_Row_78_9
theorem lk_slices_stableCmpFunc_Row_78_7 {R : Type} : ∀ e ∈ ll_slices_stableCmpFunc_Row_78_7 (R := R), LoopTells Tryd.prog X115 M_slices_stableCmpFunc_Row L_slices_stableCmpFunc_Row e.2.1 (L_slices_stableCmpFunc_Row e.1) (bodyOf Tryd.prog e.1 e.2.2.1) e.2.2.2 := List.forall_mem_cons.2 ⟨lo_slices_stableCmpFunc_Row_78_7, lk_slices_stableCmpFunc_Row_78_9⟩
def S_slices_stableCmpFunc_Row : FSp := ⟨[.one (.all 0), .one (.i .i64), .fn 63 []], [.arr 46 true], [], [([], [.arr 46 true])]⟩
noncomputable def m_slices_stableCmpFunc_Row : List U → Rt
  | [.i v0, .l v1] =>
    (let r0 : Rs := (lres rd_slices_stableCmpFunc_Row_78_2 [U.i v0, U.i (20 : Int), U.i (0 : Int), U.i (20 : Int), U.l v1])
    (.test (ok r0 0)
    (let r1 : Rs := (Rt.res (m_slices_insertionSortCmpFunc_Row [U.i (uI (out r0 0) 2), U.i (uI (out r0 0) 0), U.l (uL (out r0 0) 3)]))
    (.test (ok r1 0)
    (let r2 : Rs := (lres rd_slices_stableCmpFunc_Row_78_7 [U.i (uI (out r0 0) 0), U.i (uI (out r0 0) 1), U.l (uL (out r1 0) 0)])
    (.test (ok r2 0)
    (.stop 0 [.l (uL (out r2 0) 0)])
    .fail))
    .fail))
    .fail))
  | _ => .fail
set_option maxRecDepth 100000 in
theorem q_slices_stableCmpFunc_Row (v0 : Int) (v1 : List (List PV)) : callK br Tryd.prog X115 M_slices_stableCmpFunc_Row L_slices_stableCmpFunc_Row (lsT ll_slices_stableCmpFunc_Row_78_7) 60 78 (encs [.i v0, .l v1] 0 S_slices_stableCmpFunc_Row.ap) (encH [.i v0, .l v1] (ws S_slices_stableCmpFunc_Row.ap) S_slices_stableCmpFunc_Row.ah) (fun y => fixR Tryd.prog S_slices_stableCmpFunc_Row.plan S_slices_stableCmpFunc_Row.ah.length y) =
    (m_slices_stableCmpFunc_Row [.i v0, .l v1]).go br (fun _ => none) S_slices_stableCmpFunc_Row.fin := by
  rw [← callF_eq]; kernel_rfl
theorem e_slices_stableCmpFunc_Row : EOK Tryd.prog 78 (gF S_slices_stableCmpFunc_Row m_slices_stableCmpFunc_Row) :=
  eokTold mixed named x115 (loopsOK_list rids lk_slices_stableCmpFunc_Row_78_7) 60 S_slices_stableCmpFunc_Row m_slices_stableCmpFunc_Row (by
    intro us v h; unfold m_slices_stableCmpFunc_Row at h; split at h
    · rename_i v0 v1; exact q_slices_stableCmpFunc_Row v0 v1
    · cases h) false
noncomputable abbrev X116 : Ext := extT [(78, (gF S_slices_stableCmpFunc_Row m_slices_stableCmpFunc_Row))] X115
theorem x116 : XOK Tryd.prog X116 := xok1 x115 e_slices_stableCmpFunc_Row

/-- slices.SortStableFunc[[]levee/api.Row,levee/api.Row] -/
def L_slices_SortStableFunc_ : FuncId → Nat → Option (List Nat) := liveT []
def M_slices_SortStableFunc_ : FuncId → Bool := fun f => f == 78
def S_slices_SortStableFunc_ : FSp := ⟨[.one (.all 0), .fn 63 []], [.arr 46 true], [], [([], [.arr 46 true])]⟩
noncomputable def m_slices_SortStableFunc_ : List U → Rt
  | [.l v0] =>
    (let r0 : Rs := (Rt.res (m_slices_stableCmpFunc_Row [U.i (ln v0), U.l v0]))
    (.test (ok r0 0)
    (.stop 0 [.l (uL (out r0 0) 0)])
    .fail))
  | _ => .fail
set_option maxRecDepth 100000 in
theorem q_slices_SortStableFunc_ (v0 : List (List PV)) : callK br Tryd.prog X116 M_slices_SortStableFunc_ L_slices_SortStableFunc_ (lsT []) 60 62 (encs [.l v0] 0 S_slices_SortStableFunc_.ap) (encH [.l v0] (ws S_slices_SortStableFunc_.ap) S_slices_SortStableFunc_.ah) (fun y => fixR Tryd.prog S_slices_SortStableFunc_.plan S_slices_SortStableFunc_.ah.length y) =
    (m_slices_SortStableFunc_ [.l v0]).go br (fun _ => none) S_slices_SortStableFunc_.fin := by
  rw [← callF_eq]; kernel_rfl
theorem e_slices_SortStableFunc_ : EOK Tryd.prog 62 (gF S_slices_SortStableFunc_ m_slices_SortStableFunc_) :=
  eokTold mixed named x116 (loopsOK_list rids noneIn) 60 S_slices_SortStableFunc_ m_slices_SortStableFunc_ (by
    intro us v h; unfold m_slices_SortStableFunc_ at h; split at h
    · rename_i v0; exact q_slices_SortStableFunc_ v0
    · cases h) false
noncomputable abbrev X117 : Ext := extT [(62, (gF S_slices_SortStableFunc_ m_slices_SortStableFunc_))] X116
theorem x117 : XOK Tryd.prog X117 := xok1 x116 e_slices_SortStableFunc_

/-- levee/row.Sort -/
def L_row_Sort : FuncId → Nat → Option (List Nat) := liveT [(32, 3, [3, 9, 10, 11]), (32, 1000003, [3]), (32, 2000003, [2])]
def M_row_Sort : FuncId → Bool := fun f => f == 62
noncomputable def rd_row_Sort_32_3 : List U → Rt
  | [.l v0, .i v1, .i v2, .l v3] =>
    (.test (decide (v2 < v1))
    (.test (inR v2 (ln v0))
    (.test (decide ((0 + List.length (cL (el v0 v2) 0)) * 32 ≤ 140737488355328))
    (.test (inR v2 (ln v3))
    (.test (decide (Int.toNat v2 < List.length v3))
    (.next [.l v0, .i v1, .i (w64 (v2 + (1 : Int))), .l (List.set v3 (Int.toNat v2) (setCells (el v3 v2) 0 [PV.lst 25 (cL (el v0 v2) 0)]))])
    .fail)
    .fail)
    .fail)
    .fail)
    (.stop 0 [.l v3]))
  | _ => .fail
def sp_row_Sort_32_3 : LSp := ⟨25, ⟨[(3, .one (.all 0)), (9, .one (.l 46)), (10, .one (.i .i64)), (11, .one (.i .i64))], [.arr 46 true]⟩, [(.exit 0, ⟨[(3, .one (.all 0))], [.arr 46 true]⟩)]⟩
set_option maxRecDepth 100000 in
theorem rq_row_Sort_32_3 (v0 : List (List PV)) (v1 : Int) (v2 : Int) (v3 : List (List PV)) : runK br Tryd.prog (callK br Tryd.prog X117 M_row_Sort L_row_Sort (lsT []) 40) M_row_Sort (lsT [] 32 0) 40 0 (L_row_Sort 32) (bodyOf Tryd.prog 32 3) (sp_row_Sort_32_3.s.ts sp_row_Sort_32_3.n [.l v0, .i v1, .i v2, .l v3]) (sp_row_Sort_32_3.s.h [.l v0, .i v1, .i v2, .l v3]) (idc Tryd.prog 0 (L_row_Sort 32) 3) =
    (rd_row_Sort_32_3 [.l v0, .i v1, .i v2, .l v3]).go br (fun us' => some (.normal, sp_row_Sort_32_3.s.ts sp_row_Sort_32_3.n us', sp_row_Sort_32_3.s.h us')) sp_row_Sort_32_3.fin := by
  rw [← callF_eq, ← runF_eq]; kernel_rfl
theorem lo_row_Sort_32_3 {R : Type} : LoopTells Tryd.prog X117 M_row_Sort L_row_Sort 0 (L_row_Sort 32) (bodyOf Tryd.prog 32 3) (gL (R := R) sp_row_Sort_32_3 rd_row_Sort_32_3 br) :=
  loopTold (callK_ev (loopsOK_list rids noneIn) 40) (lsokIn (loopsOK_list rids noneIn) 32 0 3) (by kernel_rfl) sp_row_Sort_32_3 rd_row_Sort_32_3 rfl (by kernel_rfl) (by
    intro us v h; unfold rd_row_Sort_32_3 at h; split at h
    · rename_i v0 v1 v2 v3; exact rq_row_Sort_32_3 v0 v1 v2 v3
    · cases h)
noncomputable abbrev ll_row_Sort_32_3 {R : Type} : List (Nat × Nat × Nat × Smy R) := (32, 0, 3, gL sp_row_Sort_32_3 rd_row_Sort_32_3 br) :: []
theorem lk_row_Sort_32_3 {R : Type} : ∀ e ∈ ll_row_Sort_32_3 (R := R), LoopTells Tryd.prog X117 M_row_Sort L_row_Sort e.2.1 (L_row_Sort e.1) (bodyOf Tryd.prog e.1 e.2.2.1) e.2.2.2 := List.forall_mem_cons.2 ⟨lo_row_Sort_32_3, noneIn⟩
def S_row_Sort : FSp := ⟨[.one (.l 46)], [], [], [([.one (.all 0)], [.arr 46 true])]⟩
noncomputable def m_row_Sort : List U → Rt
  | [.l v0] =>
    (.test (decide ((0 : Int) ≤ ln v0 ∧ ln v0 ≤ ln v0 ∧ (24 : Int) * ln v0 ≤ (140737488355328 : Int) ∧ ln v0 ≤ (140737488355328 : Int)))
    (let r0 : Rs := (lres rd_row_Sort_32_3 [U.l v0, U.i (ln v0), U.i (0 : Int), U.l (List.replicate (Int.toNat (ln v0)) [PV.lst 25 []])])
    (.test (ok r0 0)
    (let r1 : Rs := (Rt.res (m_slices_SortStableFunc_ [U.l (uL (out r0 0) 0)]))
    (.test (ok r1 0)
    (.stop 0 [.l (uL (out r1 0) 0)])
    .fail))
    .fail))
    .fail)
  | _ => .fail
set_option maxRecDepth 100000 in
theorem q_row_Sort (v0 : List (List PV)) : callK br Tryd.prog X117 M_row_Sort L_row_Sort (lsT ll_row_Sort_32_3) 60 32 (encs [.l v0] 0 S_row_Sort.ap) (encH [.l v0] (ws S_row_Sort.ap) S_row_Sort.ah) (fun y => fixR Tryd.prog S_row_Sort.plan S_row_Sort.ah.length y) =
    (m_row_Sort [.l v0]).go br (fun _ => none) S_row_Sort.fin := by
  rw [← callF_eq]; kernel_rfl
theorem e_row_Sort : EOK Tryd.prog 32 (gF S_row_Sort m_row_Sort) :=
  eokTold mixed named x117 (loopsOK_list rids lk_row_Sort_32_3) 60 S_row_Sort m_row_Sort (by
    intro us v h; unfold m_row_Sort at h; split at h
    · rename_i v0; exact q_row_Sort v0
    · cases h) false
noncomputable abbrev X118 : Ext := extT [(32, (gF S_row_Sort m_row_Sort))] X117
theorem x118 : XOK Tryd.prog X118 := xok1 x117 e_row_Sort

/-- levee/leveeref04.Same -/
def L_R04_Same : FuncId → Nat → Option (List Nat) := liveT [(35, 4, [0, 1, 5]), (35, 1000004, []), (35, 2000004, [4])]
def M_R04_Same : FuncId → Bool := fun _ => false
noncomputable def rd_R04_Same_35_4 : List U → Rt
  | [.l v0, .l v1, .i v2] =>
    (.test (decide (v2 < ln v0))
    (.test (inR v2 (ln v0))
    (.test (inR v2 (ln v1))
    (let r0 : Rs := (Rt.res (m_R02_Compare [U.l (cL (el v0 v2) 0), U.l (cL (el v1 v2) 0)]))
    (.test (ok r0 0)
    (.test (uI (out r0 0) 0 != (0 : Int))
    (.stop 0 [.b false])
    (.next [.l v0, .l v1, .i (w64 (v2 + (1 : Int)))]))
    .fail))
    .fail)
    .fail)
    (.stop 1 []))
  | _ => .fail
def sp_R04_Same_35_4 : LSp := ⟨27, ⟨[(0, .one (.l 46)), (1, .one (.l 46)), (5, .one (.i .i64))], []⟩, [(.ret, ⟨[(4, .one (.b))], []⟩), (.exit 0, ⟨[], []⟩)]⟩
set_option maxRecDepth 100000 in
theorem rq_R04_Same_35_4 (v0 : List (List PV)) (v1 : List (List PV)) (v2 : Int) : runK br Tryd.prog (callK br Tryd.prog X118 M_R04_Same L_R04_Same (lsT []) 40) M_R04_Same (lsT [] 35 0) 40 0 (L_R04_Same 35) (bodyOf Tryd.prog 35 4) (sp_R04_Same_35_4.s.ts sp_R04_Same_35_4.n [.l v0, .l v1, .i v2]) (sp_R04_Same_35_4.s.h [.l v0, .l v1, .i v2]) (idc Tryd.prog 0 (L_R04_Same 35) 4) =
    (rd_R04_Same_35_4 [.l v0, .l v1, .i v2]).go br (fun us' => some (.normal, sp_R04_Same_35_4.s.ts sp_R04_Same_35_4.n us', sp_R04_Same_35_4.s.h us')) sp_R04_Same_35_4.fin := by
  rw [← callF_eq, ← runF_eq]; kernel_rfl
theorem lo_R04_Same_35_4 {R : Type} : LoopTells Tryd.prog X118 M_R04_Same L_R04_Same 0 (L_R04_Same 35) (bodyOf Tryd.prog 35 4) (gL (R := R) sp_R04_Same_35_4 rd_R04_Same_35_4 br) :=
  loopTold (callK_ev (loopsOK_list rids noneIn) 40) (lsokIn (loopsOK_list rids noneIn) 35 0 4) (by kernel_rfl) sp_R04_Same_35_4 rd_R04_Same_35_4 rfl (by kernel_rfl) (by
    intro us v h; unfold rd_R04_Same_35_4 at h; split at h
    · rename_i v0 v1 v2; exact rq_R04_Same_35_4 v0 v1 v2
    · cases h)
noncomputable abbrev ll_R04_Same_35_4 {R : Type} : List (Nat × Nat × Nat × Smy R) := (35, 0, 4, gL sp_R04_Same_35_4 rd_R04_Same_35_4 br) :: []
theorem lk_R04_Same_35_4 {R : Type} : ∀ e ∈ ll_R04_Same_35_4 (R := R), LoopTells Tryd.prog X118 M_R04_Same L_R04_Same e.2.1 (L_R04_Same e.1) (bodyOf Tryd.prog e.1 e.2.2.1) e.2.2.2 := List.forall_mem_cons.2 ⟨lo_R04_Same_35_4, noneIn⟩
def S_R04_Same : FSp := ⟨[.one (.l 46), .one (.l 46)], [], [], [([.one (.b)], [])]⟩
noncomputable def m_R04_Same : List U → Rt
  | [.l v0, .l v1] =>
    (.test (ln v0 != ln v1)
    (.stop 0 [.b false])
    (let r0 : Rs := (lres rd_R04_Same_35_4 [U.l v0, U.l v1, U.i (0 : Int)])
    (.test (ok r0 0)
    (.stop 0 [.b (uB (out r0 0) 0)])
    (.test (ok r0 1)
    (.stop 0 [.b true])
    .fail))))
  | _ => .fail
set_option maxRecDepth 100000 in
theorem q_R04_Same (v0 : List (List PV)) (v1 : List (List PV)) : callK br Tryd.prog X118 M_R04_Same L_R04_Same (lsT ll_R04_Same_35_4) 60 35 (encs [.l v0, .l v1] 0 S_R04_Same.ap) (encH [.l v0, .l v1] (ws S_R04_Same.ap) S_R04_Same.ah) (fun y => fixR Tryd.prog S_R04_Same.plan S_R04_Same.ah.length y) =
    (m_R04_Same [.l v0, .l v1]).go br (fun _ => none) S_R04_Same.fin := by
  rw [← callF_eq]; kernel_rfl
theorem e_R04_Same : EOK Tryd.prog 35 (gF S_R04_Same m_R04_Same) :=
  eokTold mixed named x118 (loopsOK_list rids lk_R04_Same_35_4) 60 S_R04_Same m_R04_Same (by
    intro us v h; unfold m_R04_Same at h; split at h
    · rename_i v0 v1; exact q_R04_Same v0 v1
    · cases h) false
noncomputable abbrev X119 : Ext := extT [(35, (gF S_R04_Same m_R04_Same))] X118
theorem x119 : XOK Tryd.prog X119 := xok1 x118 e_R04_Same

/-- levee/leveelaw04.fixed -/
def L_L04_fixed : FuncId → Nat → Option (List Nat) := liveT []
def M_L04_fixed : FuncId → Bool := fun f => f == 78 || f == 92 || f == 93 || f == 105 || f == 117 || f == 62
def S_L04_fixed : FSp := ⟨[], [], [], [([.one (.b)], [])]⟩
noncomputable def m_L04_fixed : List U → Rt
  | [] =>
    (.stop 0 [.b true])
  | _ => .fail
set_option maxRecDepth 100000 in
theorem q_L04_fixed : callK br Tryd.prog XG M_L04_fixed L_L04_fixed (lsT []) 60 30 (encs [] 0 S_L04_fixed.ap) (encH [] (ws S_L04_fixed.ap) S_L04_fixed.ah) (fun y => fixR Tryd.prog S_L04_fixed.plan S_L04_fixed.ah.length y) =
    (m_L04_fixed []).go br (fun _ => none) S_L04_fixed.fin := by
  rw [← callF_eq]; kernel_rfl
theorem e_L04_fixed : EOK Tryd.prog 30 (gI S_L04_fixed m_L04_fixed) :=
  eokTold mixed named xG (loopsOK_list rids noneIn) 60 S_L04_fixed m_L04_fixed (by
    intro us v h; unfold m_L04_fixed at h; split at h
    · exact q_L04_fixed
    · cases h) true
noncomputable abbrev X120 : Ext := extT [(30, (gI S_L04_fixed m_L04_fixed))] X119
theorem x120 : XOK Tryd.prog X120 := xok1 x119 e_L04_fixed

/-- levee/leveeref02.Short -/
def L_R02_Short : FuncId → Nat → Option (List Nat) := liveT [(60, 2, [0, 3]), (60, 1000002, [0]), (60, 2000002, [2])]
def M_R02_Short : FuncId → Bool := fun _ => false
noncomputable def rd_R02_Short_60_2 : List U → Rt
  | [.l v0, .i v1] =>
    (.test (decide (v1 < ln v0))
    (.test (inR v1 (ln v0))
    (.test (decide ((↑(ByteArray.size (cS (el v0 v1) 2)) : Int) > (1000 : Int)))
    (.stop 0 [.b false])
    (.next [.l v0, .i (w64 (v1 + (1 : Int)))]))
    .fail)
    (.stop 1 [.l v0]))
  | _ => .fail
def sp_R02_Short_60_2 : LSp := ⟨20, ⟨[(0, .one (.l 25)), (3, .one (.i .i64))], []⟩, [(.ret, ⟨[(2, .one (.b))], []⟩), (.exit 0, ⟨[(0, .one (.l 25))], []⟩)]⟩
set_option maxRecDepth 100000 in
theorem rq_R02_Short_60_2 (v0 : List (List PV)) (v1 : Int) : runK br Tryd.prog (callK br Tryd.prog X120 M_R02_Short L_R02_Short (lsT []) 40) M_R02_Short (lsT [] 60 0) 40 0 (L_R02_Short 60) (bodyOf Tryd.prog 60 2) (sp_R02_Short_60_2.s.ts sp_R02_Short_60_2.n [.l v0, .i v1]) (sp_R02_Short_60_2.s.h [.l v0, .i v1]) (idc Tryd.prog 0 (L_R02_Short 60) 2) =
    (rd_R02_Short_60_2 [.l v0, .i v1]).go br (fun us' => some (.normal, sp_R02_Short_60_2.s.ts sp_R02_Short_60_2.n us', sp_R02_Short_60_2.s.h us')) sp_R02_Short_60_2.fin := by
  rw [← callF_eq, ← runF_eq]; kernel_rfl
theorem lo_R02_Short_60_2 {R : Type} : LoopTells Tryd.prog X120 M_R02_Short L_R02_Short 0 (L_R02_Short 60) (bodyOf Tryd.prog 60 2) (gL (R := R) sp_R02_Short_60_2 rd_R02_Short_60_2 br) :=
  loopTold (callK_ev (loopsOK_list rids noneIn) 40) (lsokIn (loopsOK_list rids noneIn) 60 0 2) (by kernel_rfl) sp_R02_Short_60_2 rd_R02_Short_60_2 rfl (by kernel_rfl) (by
    intro us v h; unfold rd_R02_Short_60_2 at h; split at h
    · rename_i v0 v1; exact rq_R02_Short_60_2 v0 v1
    · cases h)
noncomputable abbrev ll_R02_Short_60_2 {R : Type} : List (Nat × Nat × Nat × Smy R) := (60, 0, 2, gL sp_R02_Short_60_2 rd_R02_Short_60_2 br) :: []
theorem lk_R02_Short_60_2 {R : Type} : ∀ e ∈ ll_R02_Short_60_2 (R := R), LoopTells Tryd.prog X120 M_R02_Short L_R02_Short e.2.1 (L_R02_Short e.1) (bodyOf Tryd.prog e.1 e.2.2.1) e.2.2.2 := List.forall_mem_cons.2 ⟨lo_R02_Short_60_2, noneIn⟩
def S_R02_Short : FSp := ⟨[.one (.l 25)], [], [], [([.one (.b)], [])]⟩
noncomputable def m_R02_Short : List U → Rt
  | [.l v0] =>
    (let r0 : Rs := (lres rd_R02_Short_60_2 [U.l v0, U.i (0 : Int)])
    (.test (ok r0 0)
    (.stop 0 [.b (uB (out r0 0) 0)])
    (.test (ok r0 1)
    (.stop 0 [.b (decide (ln (uL (out r0 1) 0) ≤ (40 : Int)))])
    .fail)))
  | _ => .fail
set_option maxRecDepth 100000 in
theorem q_R02_Short (v0 : List (List PV)) : callK br Tryd.prog X120 M_R02_Short L_R02_Short (lsT ll_R02_Short_60_2) 60 60 (encs [.l v0] 0 S_R02_Short.ap) (encH [.l v0] (ws S_R02_Short.ap) S_R02_Short.ah) (fun y => fixR Tryd.prog S_R02_Short.plan S_R02_Short.ah.length y) =
    (m_R02_Short [.l v0]).go br (fun _ => none) S_R02_Short.fin := by
  rw [← callF_eq]; kernel_rfl
theorem e_R02_Short : EOK Tryd.prog 60 (gF S_R02_Short m_R02_Short) :=
  eokTold mixed named x120 (loopsOK_list rids lk_R02_Short_60_2) 60 S_R02_Short m_R02_Short (by
    intro us v h; unfold m_R02_Short at h; split at h
    · rename_i v0; exact q_R02_Short v0
    · cases h) false
noncomputable abbrev X121 : Ext := extT [(60, (gF S_R02_Short m_R02_Short))] X120
theorem x121 : XOK Tryd.prog X121 := xok1 x120 e_R02_Short

/-- levee/leveeref04.Short -/
def L_R04_Short : FuncId → Nat → Option (List Nat) := liveT [(31, 2, [0, 3]), (31, 1000002, [0]), (31, 2000002, [2])]
def M_R04_Short : FuncId → Bool := fun _ => false
noncomputable def rd_R04_Short_31_2 : List U → Rt
  | [.l v0, .i v1] =>
    (.test (decide (v1 < ln v0))
    (.test (inR v1 (ln v0))
    (let r0 : Rs := (Rt.res (m_R02_Short [U.l (cL (el v0 v1) 0)]))
    (.test (ok r0 0)
    (.test (!uB (out r0 0) 0)
    (.stop 0 [.b false])
    (.next [.l v0, .i (w64 (v1 + (1 : Int)))]))
    .fail))
    .fail)
    (.stop 1 [.l v0]))
  | _ => .fail
def sp_R04_Short_31_2 : LSp := ⟨19, ⟨[(0, .one (.l 46)), (3, .one (.i .i64))], []⟩, [(.ret, ⟨[(2, .one (.b))], []⟩), (.exit 0, ⟨[(0, .one (.l 46))], []⟩)]⟩
set_option maxRecDepth 100000 in
theorem rq_R04_Short_31_2 (v0 : List (List PV)) (v1 : Int) : runK br Tryd.prog (callK br Tryd.prog X121 M_R04_Short L_R04_Short (lsT []) 40) M_R04_Short (lsT [] 31 0) 40 0 (L_R04_Short 31) (bodyOf Tryd.prog 31 2) (sp_R04_Short_31_2.s.ts sp_R04_Short_31_2.n [.l v0, .i v1]) (sp_R04_Short_31_2.s.h [.l v0, .i v1]) (idc Tryd.prog 0 (L_R04_Short 31) 2) =
    (rd_R04_Short_31_2 [.l v0, .i v1]).go br (fun us' => some (.normal, sp_R04_Short_31_2.s.ts sp_R04_Short_31_2.n us', sp_R04_Short_31_2.s.h us')) sp_R04_Short_31_2.fin := by
  rw [← callF_eq, ← runF_eq]; kernel_rfl
theorem lo_R04_Short_31_2 {R : Type} : LoopTells Tryd.prog X121 M_R04_Short L_R04_Short 0 (L_R04_Short 31) (bodyOf Tryd.prog 31 2) (gL (R := R) sp_R04_Short_31_2 rd_R04_Short_31_2 br) :=
  loopTold (callK_ev (loopsOK_list rids noneIn) 40) (lsokIn (loopsOK_list rids noneIn) 31 0 2) (by kernel_rfl) sp_R04_Short_31_2 rd_R04_Short_31_2 rfl (by kernel_rfl) (by
    intro us v h; unfold rd_R04_Short_31_2 at h; split at h
    · rename_i v0 v1; exact rq_R04_Short_31_2 v0 v1
    · cases h)
noncomputable abbrev ll_R04_Short_31_2 {R : Type} : List (Nat × Nat × Nat × Smy R) := (31, 0, 2, gL sp_R04_Short_31_2 rd_R04_Short_31_2 br) :: []
theorem lk_R04_Short_31_2 {R : Type} : ∀ e ∈ ll_R04_Short_31_2 (R := R), LoopTells Tryd.prog X121 M_R04_Short L_R04_Short e.2.1 (L_R04_Short e.1) (bodyOf Tryd.prog e.1 e.2.2.1) e.2.2.2 := List.forall_mem_cons.2 ⟨lo_R04_Short_31_2, noneIn⟩
def S_R04_Short : FSp := ⟨[.one (.l 46)], [], [], [([.one (.b)], [])]⟩
noncomputable def m_R04_Short : List U → Rt
  | [.l v0] =>
    (let r0 : Rs := (lres rd_R04_Short_31_2 [U.l v0, U.i (0 : Int)])
    (.test (ok r0 0)
    (.stop 0 [.b (uB (out r0 0) 0)])
    (.test (ok r0 1)
    (.stop 0 [.b (decide (ln (uL (out r0 1) 0) ≤ (100 : Int)))])
    .fail)))
  | _ => .fail
set_option maxRecDepth 100000 in
theorem q_R04_Short (v0 : List (List PV)) : callK br Tryd.prog X121 M_R04_Short L_R04_Short (lsT ll_R04_Short_31_2) 60 31 (encs [.l v0] 0 S_R04_Short.ap) (encH [.l v0] (ws S_R04_Short.ap) S_R04_Short.ah) (fun y => fixR Tryd.prog S_R04_Short.plan S_R04_Short.ah.length y) =
    (m_R04_Short [.l v0]).go br (fun _ => none) S_R04_Short.fin := by
  rw [← callF_eq]; kernel_rfl
theorem e_R04_Short : EOK Tryd.prog 31 (gF S_R04_Short m_R04_Short) :=
  eokTold mixed named x121 (loopsOK_list rids lk_R04_Short_31_2) 60 S_R04_Short m_R04_Short (by
    intro us v h; unfold m_R04_Short at h; split at h
    · rename_i v0; exact q_R04_Short v0
    · cases h) false
noncomputable abbrev X122 : Ext := extT [(31, (gF S_R04_Short m_R04_Short))] X121
theorem x122 : XOK Tryd.prog X122 := xok1 x121 e_R04_Short

/-- levee/leveelaw04.count -/
def L_L04_count : FuncId → Nat → Option (List Nat) := liveT [(34, 3, [0, 1, 5, 6]), (34, 1000003, [5]), (34, 2000003, [4])]
def M_L04_count : FuncId → Bool := fun _ => false
noncomputable def rd_L04_count_34_3 : List U → Rt
  | [.l v0, .l v1, .i v2, .i v3] =>
    (.test (decide (v3 < ln v0))
    (.test (inR v3 (ln v0))
    (let r0 : Rs := (Rt.res (m_R02_Compare [U.l (cL (el v0 v3) 0), U.l v1]))
    (.test (ok r0 0)
    (.test (uI (out r0 0) 0 == (0 : Int))
    (.next [.l v0, .l v1, .i (w64 (v2 + (1 : Int))), .i (w64 (v3 + (1 : Int)))])
    (.next [.l v0, .l v1, .i v2, .i (w64 (v3 + (1 : Int)))]))
    .fail))
    .fail)
    (.stop 0 [.i v2]))
  | _ => .fail
def sp_L04_count_34_3 : LSp := ⟨23, ⟨[(0, .one (.l 46)), (1, .one (.l 25)), (5, .one (.i .i64)), (6, .one (.i .i64))], []⟩, [(.exit 0, ⟨[(5, .one (.i .i64))], []⟩)]⟩
set_option maxRecDepth 100000 in
theorem rq_L04_count_34_3 (v0 : List (List PV)) (v1 : List (List PV)) (v2 : Int) (v3 : Int) : runK br Tryd.prog (callK br Tryd.prog X122 M_L04_count L_L04_count (lsT []) 40) M_L04_count (lsT [] 34 0) 40 0 (L_L04_count 34) (bodyOf Tryd.prog 34 3) (sp_L04_count_34_3.s.ts sp_L04_count_34_3.n [.l v0, .l v1, .i v2, .i v3]) (sp_L04_count_34_3.s.h [.l v0, .l v1, .i v2, .i v3]) (idc Tryd.prog 0 (L_L04_count 34) 3) =
    (rd_L04_count_34_3 [.l v0, .l v1, .i v2, .i v3]).go br (fun us' => some (.normal, sp_L04_count_34_3.s.ts sp_L04_count_34_3.n us', sp_L04_count_34_3.s.h us')) sp_L04_count_34_3.fin := by
  rw [← callF_eq, ← runF_eq]; kernel_rfl
theorem lo_L04_count_34_3 {R : Type} : LoopTells Tryd.prog X122 M_L04_count L_L04_count 0 (L_L04_count 34) (bodyOf Tryd.prog 34 3) (gL (R := R) sp_L04_count_34_3 rd_L04_count_34_3 br) :=
  loopTold (callK_ev (loopsOK_list rids noneIn) 40) (lsokIn (loopsOK_list rids noneIn) 34 0 3) (by kernel_rfl) sp_L04_count_34_3 rd_L04_count_34_3 rfl (by kernel_rfl) (by
    intro us v h; unfold rd_L04_count_34_3 at h; split at h
    · rename_i v0 v1 v2 v3; exact rq_L04_count_34_3 v0 v1 v2 v3
    · cases h)
noncomputable abbrev ll_L04_count_34_3 {R : Type} : List (Nat × Nat × Nat × Smy R) := (34, 0, 3, gL sp_L04_count_34_3 rd_L04_count_34_3 br) :: []
theorem lk_L04_count_34_3 {R : Type} : ∀ e ∈ ll_L04_count_34_3 (R := R), LoopTells Tryd.prog X122 M_L04_count L_L04_count e.2.1 (L_L04_count e.1) (bodyOf Tryd.prog e.1 e.2.2.1) e.2.2.2 := List.forall_mem_cons.2 ⟨lo_L04_count_34_3, noneIn⟩
def S_L04_count : FSp := ⟨[.one (.l 46), .one (.l 25)], [], [], [([.one (.i .i64)], [])]⟩
noncomputable def m_L04_count : List U → Rt
  | [.l v0, .l v1] =>
    (let r0 : Rs := (lres rd_L04_count_34_3 [U.l v0, U.l v1, U.i (0 : Int), U.i (0 : Int)])
    (.test (ok r0 0)
    (.stop 0 [.i (uI (out r0 0) 0)])
    .fail))
  | _ => .fail
set_option maxRecDepth 100000 in
theorem q_L04_count (v0 : List (List PV)) (v1 : List (List PV)) : callK br Tryd.prog X122 M_L04_count L_L04_count (lsT ll_L04_count_34_3) 60 34 (encs [.l v0, .l v1] 0 S_L04_count.ap) (encH [.l v0, .l v1] (ws S_L04_count.ap) S_L04_count.ah) (fun y => fixR Tryd.prog S_L04_count.plan S_L04_count.ah.length y) =
    (m_L04_count [.l v0, .l v1]).go br (fun _ => none) S_L04_count.fin := by
  rw [← callF_eq]; kernel_rfl
theorem e_L04_count : EOK Tryd.prog 34 (gF S_L04_count m_L04_count) :=
  eokTold mixed named x122 (loopsOK_list rids lk_L04_count_34_3) 60 S_L04_count m_L04_count (by
    intro us v h; unfold m_L04_count at h; split at h
    · rename_i v0 v1; exact q_L04_count v0 v1
    · cases h) false
noncomputable abbrev X123 : Ext := extT [(34, (gF S_L04_count m_L04_count))] X122
theorem x123 : XOK Tryd.prog X123 := xok1 x122 e_L04_count

/-- levee/leveelaw04.RowSorts -/
def L_L04_RowSorts : FuncId → Nat → Option (List Nat) := liveT [(9, 7, [0, 1, 5, 6]), (9, 1000007, [0, 1, 5]), (9, 2000007, [4])]
def M_L04_RowSorts : FuncId → Bool := fun _ => false
noncomputable def rd_L04_RowSorts_9_7 : List U → Rt
  | [.l v0, .i v1, .i v2, .l v3] =>
    (.test (decide (v2 < ln v3))
    (.test (decide (v2 > (0 : Int)))
    (.test (inR (w64 (v2 - (1 : Int))) (ln v3))
    (.test (decide (Int.toNat (w64 (v2 - (1 : Int))) < List.length v3))
    (.test (inR v2 (ln v3))
    (.test (decide (Int.toNat v2 < List.length v3))
    (let r0 : Rs := (Rt.res (m_R02_Compare [U.l (cL (el v3 (w64 (v2 - (1 : Int)))) 0), U.l (cL (el v3 v2) 0)]))
    (.test (ok r0 0)
    (.test (decide (uI (out r0 0) 0 > (0 : Int)))
    (.stop 0 [.b false])
    (.test (inR v2 (ln v3))
    (.test (decide (Int.toNat v2 < List.length v3))
    (let r1 : Rs := (Rt.res (m_L04_count [U.l v3, U.l (cL (el v3 v2) 0)]))
    (.test (ok r1 0)
    (.test (inR v2 (ln v3))
    (.test (decide (Int.toNat v2 < List.length v3))
    (let r2 : Rs := (Rt.res (m_L04_count [U.l v0, U.l (cL (el v3 v2) 0)]))
    (.test (ok r2 0)
    (.test (uI (out r1 0) 0 != uI (out r2 0) 0)
    (.stop 0 [.b false])
    (.next [.l v0, .i v1, .i (w64 (v2 + (1 : Int))), .l v3]))
    .fail))
    .fail)
    .fail)
    .fail))
    .fail)
    .fail))
    .fail))
    .fail)
    .fail)
    .fail)
    .fail)
    (.test (inR v2 (ln v3))
    (.test (decide (Int.toNat v2 < List.length v3))
    (let r3 : Rs := (Rt.res (m_L04_count [U.l v3, U.l (cL (el v3 v2) 0)]))
    (.test (ok r3 0)
    (.test (inR v2 (ln v3))
    (.test (decide (Int.toNat v2 < List.length v3))
    (let r4 : Rs := (Rt.res (m_L04_count [U.l v0, U.l (cL (el v3 v2) 0)]))
    (.test (ok r4 0)
    (.test (uI (out r3 0) 0 != uI (out r4 0) 0)
    (.stop 0 [.b false])
    (.next [.l v0, .i v1, .i (w64 (v2 + (1 : Int))), .l v3]))
    .fail))
    .fail)
    .fail)
    .fail))
    .fail)
    .fail))
    (.stop 1 [.l v0, .i v1, .l v3]))
  | _ => .fail
def sp_L04_RowSorts_9_7 : LSp := ⟨78, ⟨[(0, .one (.l 46)), (1, .one (.i .i64)), (5, .one (.all 0)), (6, .one (.i .i64))], [.arr 46 true]⟩, [(.ret, ⟨[(4, .one (.b))], []⟩), (.exit 0, ⟨[(0, .one (.l 46)), (1, .one (.i .i64)), (5, .one (.all 0))], [.arr 46 true]⟩)]⟩
set_option maxRecDepth 100000 in
theorem rq_L04_RowSorts_9_7 (v0 : List (List PV)) (v1 : Int) (v2 : Int) (v3 : List (List PV)) : runK br Tryd.prog (callK br Tryd.prog X123 M_L04_RowSorts L_L04_RowSorts (lsT []) 40) M_L04_RowSorts (lsT [] 9 0) 40 0 (L_L04_RowSorts 9) (bodyOf Tryd.prog 9 7) (sp_L04_RowSorts_9_7.s.ts sp_L04_RowSorts_9_7.n [.l v0, .i v1, .i v2, .l v3]) (sp_L04_RowSorts_9_7.s.h [.l v0, .i v1, .i v2, .l v3]) (idc Tryd.prog 0 (L_L04_RowSorts 9) 7) =
    (rd_L04_RowSorts_9_7 [.l v0, .i v1, .i v2, .l v3]).go br (fun us' => some (.normal, sp_L04_RowSorts_9_7.s.ts sp_L04_RowSorts_9_7.n us', sp_L04_RowSorts_9_7.s.h us')) sp_L04_RowSorts_9_7.fin := by
  rw [← callF_eq, ← runF_eq]; kernel_rfl
theorem lo_L04_RowSorts_9_7 {R : Type} : LoopTells Tryd.prog X123 M_L04_RowSorts L_L04_RowSorts 0 (L_L04_RowSorts 9) (bodyOf Tryd.prog 9 7) (gL (R := R) sp_L04_RowSorts_9_7 rd_L04_RowSorts_9_7 br) :=
  loopTold (callK_ev (loopsOK_list rids noneIn) 40) (lsokIn (loopsOK_list rids noneIn) 9 0 7) (by kernel_rfl) sp_L04_RowSorts_9_7 rd_L04_RowSorts_9_7 rfl (by kernel_rfl) (by
    intro us v h; unfold rd_L04_RowSorts_9_7 at h; split at h
    · rename_i v0 v1 v2 v3; exact rq_L04_RowSorts_9_7 v0 v1 v2 v3
    · cases h)
noncomputable abbrev ll_L04_RowSorts_9_7 {R : Type} : List (Nat × Nat × Nat × Smy R) := (9, 0, 7, gL sp_L04_RowSorts_9_7 rd_L04_RowSorts_9_7 br) :: []
theorem lk_L04_RowSorts_9_7 {R : Type} : ∀ e ∈ ll_L04_RowSorts_9_7 (R := R), LoopTells Tryd.prog X123 M_L04_RowSorts L_L04_RowSorts e.2.1 (L_L04_RowSorts e.1) (bodyOf Tryd.prog e.1 e.2.2.1) e.2.2.2 := List.forall_mem_cons.2 ⟨lo_L04_RowSorts_9_7, noneIn⟩
def S_L04_RowSorts : FSp := ⟨[.one (.l 46), .one (.i .i64)], [], [], [([.one (.b)], [])]⟩
noncomputable def m_L04_RowSorts : List U → Rt
  | [.l v0, .i v1] =>
    (let r0 : Rs := (Rt.res (m_R04_Short [U.l v0]))
    (.test (ok r0 0)
    (.test (!uB (out r0 0) 0)
    (.stop 0 [.b true])
    (let r1 : Rs := (Rt.res (m_row_Sort [U.l v0]))
    (.test (ok r1 0)
    (.test (ln (uL (out r1 0) 0) != ln v0)
    (.stop 0 [.b false])
    (let r2 : Rs := (lres rd_L04_RowSorts_9_7 [U.l v0, U.i v1, U.i (0 : Int), U.l (uL (out r1 0) 0)])
    (.test (ok r2 0)
    (.stop 0 [.b (uB (out r2 0) 0)])
    (.test (ok r2 1)
    (.test (decide (uI (out r2 1) 1 < (0 : Int)))
    (.stop 0 [.b true])
    (.test (decide (uI (out r2 1) 1 ≥ ln (uL (out r2 1) 0)))
    (.stop 0 [.b true])
    (.test (decide ((0 : Int) ≤ uI (out r2 1) 1 ∧ uI (out r2 1) 1 ≤ ln (uL (out r2 1) 0) ∧ ln (uL (out r2 1) 0) ≤ ln (uL (out r2 1) 0)))
    (.test (decide ((0 + List.length (List.take (Int.toNat (ln (uL (out r2 1) 0)) - Int.toNat (uI (out r2 1) 1)) (List.drop (Int.toNat (uI (out r2 1) 1)) (uL (out r2 1) 0)))) * 24 ≤ 140737488355328))
    (.test (decide ((0 : Int) ≤ (0 : Int) ∧ (0 : Int) ≤ uI (out r2 1) 1 ∧ uI (out r2 1) 1 ≤ ln (uL (out r2 1) 0)))
    (.test (decide ((List.length ([] ++ List.take (Int.toNat (ln (uL (out r2 1) 0)) - Int.toNat (uI (out r2 1) 1)) (List.drop (Int.toNat (uI (out r2 1) 1)) (uL (out r2 1) 0))) + List.length (List.take (Int.toNat (uI (out r2 1) 1) - 0) (List.drop 0 (uL (out r2 1) 0)))) * 24 ≤ 140737488355328))
    (let r3 : Rs := (Rt.res (m_row_Sort [U.l ([] ++ List.take (Int.toNat (ln (uL (out r2 1) 0)) - Int.toNat (uI (out r2 1) 1)) (List.drop (Int.toNat (uI (out r2 1) 1)) (uL (out r2 1) 0)) ++ List.take (Int.toNat (uI (out r2 1) 1) - 0) (List.drop 0 (uL (out r2 1) 0)))]))
    (.test (ok r3 0)
    (let r4 : Rs := (Rt.res (m_R04_Same [U.l (uL (out r3 0) 0), U.l (uL (out r2 1) 2)]))
    (.test (ok r4 0)
    (.stop 0 [.b (uB (out r4 0) 0)])
    .fail))
    .fail))
    .fail)
    .fail)
    .fail)
    .fail)))
    .fail))))
    .fail)))
    .fail))
  | _ => .fail
set_option maxRecDepth 100000 in
theorem q_L04_RowSorts (v0 : List (List PV)) (v1 : Int) : callK br Tryd.prog X123 M_L04_RowSorts L_L04_RowSorts (lsT ll_L04_RowSorts_9_7) 60 9 (encs [.l v0, .i v1] 0 S_L04_RowSorts.ap) (encH [.l v0, .i v1] (ws S_L04_RowSorts.ap) S_L04_RowSorts.ah) (fun y => fixR Tryd.prog S_L04_RowSorts.plan S_L04_RowSorts.ah.length y) =
    (m_L04_RowSorts [.l v0, .i v1]).go br (fun _ => none) S_L04_RowSorts.fin := by
  rw [← callF_eq]; kernel_rfl
theorem e_L04_RowSorts : EOK Tryd.prog 9 (gF S_L04_RowSorts m_L04_RowSorts) :=
  eokTold mixed named x123 (loopsOK_list rids lk_L04_RowSorts_9_7) 60 S_L04_RowSorts m_L04_RowSorts (by
    intro us v h; unfold m_L04_RowSorts at h; split at h
    · rename_i v0 v1; exact q_L04_RowSorts v0 v1
    · cases h) false
noncomputable abbrev X124 : Ext := extT [(9, (gF S_L04_RowSorts m_L04_RowSorts))] X123
theorem x124 : XOK Tryd.prog X124 := xok1 x123 e_L04_RowSorts

/-- levee/leveelaw04.RowJoins -/
def L_L04_RowJoins : FuncId → Nat → Option (List Nat) := liveT [(10, 7, [4, 5, 7, 8, 9, 10, 11, 12]), (10, 1000007, [4, 5, 7, 8, 9, 10, 11]), (10, 2000007, [6]), (10, 11, [4, 5, 7, 8, 9, 10, 11, 13]), (10, 1000011, [4, 5, 7, 8, 9, 10, 11]), (10, 2000011, [6])]
def M_L04_RowJoins : FuncId → Bool := fun _ => false
noncomputable def rd_L04_RowJoins_10_7 : List U → Rt
  | [.l v0, .l v1, .i v2, .l v3, .l v4, .l v5, .l v6, .l v7, .l v8, .l v9, .l v10, .l v11] =>
    (.test (decide (v2 < ln v0))
    (.test (decide ((List.length v10 + 1) * 8 ≤ 140737488355328))
    (.next [.l v0, .l v1, .i (w64 (v2 + (1 : Int))), .l v3, .l v4, .l v5, .l v6, .l v7, .l v8, .l v9, .l (v10 ++ [[pI v2]]), .l v11])
    .fail)
    (.stop 0 [.l v0, .l v1, .l v3, .l v4, .l v5, .l v6, .l v7, .l v8, .l v9, .l v10, .l v11]))
  | _ => .fail
def sp_L04_RowJoins_10_7 : LSp := ⟨136, ⟨[(4, .one (.ptr 0 0)), (5, .one (.ptr 1 0)), (7, .one (.l 25)), (8, .one (.l 25)), (9, .one (.all 2)), (10, .one (.all 3)), (11, .one (.all 4)), (12, .one (.i .i64))], [.box 54 [.one (.l 3), .one (.l 4), .one (.l 3)], .box 54 [.one (.l 3), .one (.l 4), .one (.l 3)], .arr 25 true, .arr 3 true, .arr 3 true]⟩, [(.exit 0, ⟨[(4, .one (.ptr 0 0)), (5, .one (.ptr 1 0)), (7, .one (.l 25)), (8, .one (.l 25)), (9, .one (.all 2)), (10, .one (.all 3)), (11, .one (.all 4))], [.box 54 [.one (.l 3), .one (.l 4), .one (.l 3)], .box 54 [.one (.l 3), .one (.l 4), .one (.l 3)], .arr 25 true, .arr 3 true, .arr 3 true]⟩)]⟩
set_option maxRecDepth 100000 in
theorem rq_L04_RowJoins_10_7 (v0 : List (List PV)) (v1 : List (List PV)) (v2 : Int) (v3 : List (List PV)) (v4 : List (List PV)) (v5 : List (List PV)) (v6 : List (List PV)) (v7 : List (List PV)) (v8 : List (List PV)) (v9 : List (List PV)) (v10 : List (List PV)) (v11 : List (List PV)) : runK br Tryd.prog (callK br Tryd.prog X124 M_L04_RowJoins L_L04_RowJoins (lsT []) 40) M_L04_RowJoins (lsT [] 10 0) 40 0 (L_L04_RowJoins 10) (bodyOf Tryd.prog 10 7) (sp_L04_RowJoins_10_7.s.ts sp_L04_RowJoins_10_7.n [.l v0, .l v1, .i v2, .l v3, .l v4, .l v5, .l v6, .l v7, .l v8, .l v9, .l v10, .l v11]) (sp_L04_RowJoins_10_7.s.h [.l v0, .l v1, .i v2, .l v3, .l v4, .l v5, .l v6, .l v7, .l v8, .l v9, .l v10, .l v11]) (idc Tryd.prog 0 (L_L04_RowJoins 10) 7) =
    (rd_L04_RowJoins_10_7 [.l v0, .l v1, .i v2, .l v3, .l v4, .l v5, .l v6, .l v7, .l v8, .l v9, .l v10, .l v11]).go br (fun us' => some (.normal, sp_L04_RowJoins_10_7.s.ts sp_L04_RowJoins_10_7.n us', sp_L04_RowJoins_10_7.s.h us')) sp_L04_RowJoins_10_7.fin := by
  rw [← callF_eq, ← runF_eq]; kernel_rfl
theorem lo_L04_RowJoins_10_7 {R : Type} : LoopTells Tryd.prog X124 M_L04_RowJoins L_L04_RowJoins 0 (L_L04_RowJoins 10) (bodyOf Tryd.prog 10 7) (gL (R := R) sp_L04_RowJoins_10_7 rd_L04_RowJoins_10_7 br) :=
  loopTold (callK_ev (loopsOK_list rids noneIn) 40) (lsokIn (loopsOK_list rids noneIn) 10 0 7) (by kernel_rfl) sp_L04_RowJoins_10_7 rd_L04_RowJoins_10_7 rfl (by kernel_rfl) (by
    intro us v h; unfold rd_L04_RowJoins_10_7 at h; split at h
    · rename_i v0 v1 v2 v3 v4 v5 v6 v7 v8 v9 v10 v11; exact rq_L04_RowJoins_10_7 v0 v1 v2 v3 v4 v5 v6 v7 v8 v9 v10 v11
    · cases h)
noncomputable abbrev ll_L04_RowJoins_10_7 {R : Type} : List (Nat × Nat × Nat × Smy R) := (10, 0, 7, gL sp_L04_RowJoins_10_7 rd_L04_RowJoins_10_7 br) :: []
theorem lk_L04_RowJoins_10_7 {R : Type} : ∀ e ∈ ll_L04_RowJoins_10_7 (R := R), LoopTells Tryd.prog X124 M_L04_RowJoins L_L04_RowJoins e.2.1 (L_L04_RowJoins e.1) (bodyOf Tryd.prog e.1 e.2.2.1) e.2.2.2 := List.forall_mem_cons.2 ⟨lo_L04_RowJoins_10_7, noneIn⟩
noncomputable def rd_L04_RowJoins_10_11 : List U → Rt
  | [.l v0, .l v1, .i v2, .l v3, .l v4, .l v5, .l v6, .l v7, .l v8, .l v9, .l v10, .l v11] =>
    (.test (decide (v2 < ln v1))
    (.test (decide ((List.length v11 + 1) * 8 ≤ 140737488355328))
    (.next [.l v0, .l v1, .i (w64 (v2 + (1 : Int))), .l v3, .l v4, .l v5, .l v6, .l v7, .l v8, .l v9, .l v10, .l (v11 ++ [[pI (w64 (ln v0 + v2))]])])
    .fail)
    (.stop 0 [.l v0, .l v1, .l v3, .l v4, .l v5, .l v6, .l v7, .l v8, .l v9, .l v10, .l v11]))
  | _ => .fail
def sp_L04_RowJoins_10_11 : LSp := ⟨136, ⟨[(4, .one (.ptr 0 0)), (5, .one (.ptr 1 0)), (7, .one (.l 25)), (8, .one (.l 25)), (9, .one (.all 2)), (10, .one (.all 3)), (11, .one (.all 4)), (13, .one (.i .i64))], [.box 54 [.one (.l 3), .one (.l 4), .one (.l 3)], .box 54 [.one (.l 3), .one (.l 4), .one (.l 3)], .arr 25 true, .arr 3 true, .arr 3 true]⟩, [(.exit 2, ⟨[(4, .one (.ptr 0 0)), (5, .one (.ptr 1 0)), (7, .one (.l 25)), (8, .one (.l 25)), (9, .one (.all 2)), (10, .one (.all 3)), (11, .one (.all 4))], [.box 54 [.one (.l 3), .one (.l 4), .one (.l 3)], .box 54 [.one (.l 3), .one (.l 4), .one (.l 3)], .arr 25 true, .arr 3 true, .arr 3 true]⟩)]⟩
set_option maxRecDepth 100000 in
theorem rq_L04_RowJoins_10_11 (v0 : List (List PV)) (v1 : List (List PV)) (v2 : Int) (v3 : List (List PV)) (v4 : List (List PV)) (v5 : List (List PV)) (v6 : List (List PV)) (v7 : List (List PV)) (v8 : List (List PV)) (v9 : List (List PV)) (v10 : List (List PV)) (v11 : List (List PV)) : runK br Tryd.prog (callK br Tryd.prog X124 M_L04_RowJoins L_L04_RowJoins (lsT ll_L04_RowJoins_10_7) 40) M_L04_RowJoins (lsT ll_L04_RowJoins_10_7 10 0) 40 0 (L_L04_RowJoins 10) (bodyOf Tryd.prog 10 11) (sp_L04_RowJoins_10_11.s.ts sp_L04_RowJoins_10_11.n [.l v0, .l v1, .i v2, .l v3, .l v4, .l v5, .l v6, .l v7, .l v8, .l v9, .l v10, .l v11]) (sp_L04_RowJoins_10_11.s.h [.l v0, .l v1, .i v2, .l v3, .l v4, .l v5, .l v6, .l v7, .l v8, .l v9, .l v10, .l v11]) (idc Tryd.prog 0 (L_L04_RowJoins 10) 11) =
    (rd_L04_RowJoins_10_11 [.l v0, .l v1, .i v2, .l v3, .l v4, .l v5, .l v6, .l v7, .l v8, .l v9, .l v10, .l v11]).go br (fun us' => some (.normal, sp_L04_RowJoins_10_11.s.ts sp_L04_RowJoins_10_11.n us', sp_L04_RowJoins_10_11.s.h us')) sp_L04_RowJoins_10_11.fin := by
  rw [← callF_eq, ← runF_eq]; kernel_rfl
theorem lo_L04_RowJoins_10_11 {R : Type} : LoopTells Tryd.prog X124 M_L04_RowJoins L_L04_RowJoins 0 (L_L04_RowJoins 10) (bodyOf Tryd.prog 10 11) (gL (R := R) sp_L04_RowJoins_10_11 rd_L04_RowJoins_10_11 br) :=
  loopTold (callK_ev (loopsOK_list rids lk_L04_RowJoins_10_7) 40) (lsokIn (loopsOK_list rids lk_L04_RowJoins_10_7) 10 0 11) (by kernel_rfl) sp_L04_RowJoins_10_11 rd_L04_RowJoins_10_11 rfl (by kernel_rfl) (by
    intro us v h; unfold rd_L04_RowJoins_10_11 at h; split at h
    · rename_i v0 v1 v2 v3 v4 v5 v6 v7 v8 v9 v10 v11; exact rq_L04_RowJoins_10_11 v0 v1 v2 v3 v4 v5 v6 v7 v8 v9 v10 v11
    · cases h)
noncomputable abbrev ll_L04_RowJoins_10_11 {R : Type} : List (Nat × Nat × Nat × Smy R) := (10, 0, 11, gL sp_L04_RowJoins_10_11 rd_L04_RowJoins_10_11 br) :: ll_L04_RowJoins_10_7
theorem lk_L04_RowJoins_10_11 {R : Type} : ∀ e ∈ ll_L04_RowJoins_10_11 (R := R), LoopTells Tryd.prog X124 M_L04_RowJoins L_L04_RowJoins e.2.1 (L_L04_RowJoins e.1) (bodyOf Tryd.prog e.1 e.2.2.1) e.2.2.2 := List.forall_mem_cons.2 ⟨lo_L04_RowJoins_10_11, lk_L04_RowJoins_10_7⟩
def S_L04_RowJoins : FSp := ⟨[.agg [.l 25, .l 25], .agg [.l 3, .l 4, .l 3], .agg [.l 3, .l 4, .l 3]], [], [], [([.one (.b)], [])]⟩
noncomputable def m_L04_RowJoins : List U → Rt
  | [.l v0, .l v1, .l v2, .l v3, .l v4, .l v5, .l v6, .l v7] =>
    (.test (decide (ln v0 > (20 : Int)))
    (.stop 0 [.b true])
    (.test (decide (ln v1 > (20 : Int)))
    (.stop 0 [.b true])
    (let r0 : Rs := (Rt.res (m_row_Join [U.l [[PV.lst 25 v0], [PV.lst 25 v1]]]))
    (.test (ok r0 0)
    (let r1 : Rs := (lres rd_L04_RowJoins_10_7 [U.l v0, U.l v1, U.i (0 : Int), U.l v2, U.l v3, U.l v4, U.l v5, U.l v6, U.l v7, U.l (uL (out r0 0) 0), U.l [], U.l []])
    (.test (ok r1 0)
    (let r2 : Rs := (lres rd_L04_RowJoins_10_11 [U.l (uL (out r1 0) 0), U.l (uL (out r1 0) 1), U.i (0 : Int), U.l (uL (out r1 0) 2), U.l (uL (out r1 0) 3), U.l (uL (out r1 0) 4), U.l (uL (out r1 0) 5), U.l (uL (out r1 0) 6), U.l (uL (out r1 0) 7), U.l (uL (out r1 0) 8), U.l (uL (out r1 0) 9), U.l (uL (out r1 0) 10)])
    (.test (ok r2 0)
    (let r3 : Rs := (Rt.res (m_row_Pick [U.l (uL (out r2 0) 8), U.l (uL (out r2 0) 9)]))
    (.test (ok r3 0)
    (let r4 : Rs := (Rt.res (m_row_Pick [U.l (uL (out r2 0) 8), U.l (uL (out r2 0) 10)]))
    (.test (ok r4 0)
    (.test (!uB (out r3 0) 0)
    (.stop 0 [.b false])
    (.test (!uB (out r4 0) 0)
    (.stop 0 [.b false])
    (let r5 : Rs := (Rt.res (m_R02_Same [U.l (uL (out r3 0) 1), U.l (uL (out r2 0) 0)]))
    (.test (ok r5 0)
    (.test (!uB (out r5 0) 0)
    (.stop 0 [.b false])
    (let r6 : Rs := (Rt.res (m_R02_Same [U.l (uL (out r4 0) 1), U.l (uL (out r2 0) 1)]))
    (.test (ok r6 0)
    (.test (!uB (out r6 0) 0)
    (.stop 0 [.b false])
    (.test (ln (uL (out r2 0) 8) != w64 (ln (uL (out r2 0) 0) + ln (uL (out r2 0) 1)))
    (.stop 0 [.b false])
    (let r7 : Rs := (Rt.res (m_row_Fits [U.l (uL (out r2 0) 0), U.l (uL (out r2 0) 2), U.l (uL (out r2 0) 3)]))
    (.test (ok r7 0)
    (.test (!uB (out r7 0) 0)
    (.stop 0 [.b true])
    (let r8 : Rs := (Rt.res (m_row_Fits [U.l (uL (out r2 0) 1), U.l (uL (out r2 0) 5), U.l (uL (out r2 0) 6)]))
    (.test (ok r8 0)
    (.test (!uB (out r8 0) 0)
    (.stop 0 [.b true])
    (.test (decide ((0 + List.length (uL (out r2 0) 2)) * 8 ≤ 140737488355328))
    (.test (decide ((List.length ([] ++ uL (out r2 0) 2) + List.length (uL (out r2 0) 5)) * 8 ≤ 140737488355328))
    (.test (decide ((0 + List.length (uL (out r2 0) 3)) * 1 ≤ 140737488355328))
    (.test (decide ((List.length ([] ++ uL (out r2 0) 3) + List.length (uL (out r2 0) 6)) * 1 ≤ 140737488355328))
    (let r9 : Rs := (Rt.res (m_row_Fits [U.l (uL (out r2 0) 8), U.l ([] ++ uL (out r2 0) 2 ++ uL (out r2 0) 5), U.l ([] ++ uL (out r2 0) 3 ++ uL (out r2 0) 6)]))
    (.test (ok r9 0)
    (.stop 0 [.b (uB (out r9 0) 0)])
    .fail))
    .fail)
    .fail)
    .fail)
    .fail))
    .fail)))
    .fail))))
    .fail)))
    .fail))))
    .fail))
    .fail))
    .fail))
    .fail))
    .fail))))
  | _ => .fail
set_option maxRecDepth 100000 in
theorem q_L04_RowJoins (v0 : List (List PV)) (v1 : List (List PV)) (v2 : List (List PV)) (v3 : List (List PV)) (v4 : List (List PV)) (v5 : List (List PV)) (v6 : List (List PV)) (v7 : List (List PV)) : callK br Tryd.prog X124 M_L04_RowJoins L_L04_RowJoins (lsT ll_L04_RowJoins_10_11) 60 10 (encs [.l v0, .l v1, .l v2, .l v3, .l v4, .l v5, .l v6, .l v7] 0 S_L04_RowJoins.ap) (encH [.l v0, .l v1, .l v2, .l v3, .l v4, .l v5, .l v6, .l v7] (ws S_L04_RowJoins.ap) S_L04_RowJoins.ah) (fun y => fixR Tryd.prog S_L04_RowJoins.plan S_L04_RowJoins.ah.length y) =
    (m_L04_RowJoins [.l v0, .l v1, .l v2, .l v3, .l v4, .l v5, .l v6, .l v7]).go br (fun _ => none) S_L04_RowJoins.fin := by
  rw [← callF_eq]; kernel_rfl
theorem e_L04_RowJoins : EOK Tryd.prog 10 (gF S_L04_RowJoins m_L04_RowJoins) :=
  eokTold mixed named x124 (loopsOK_list rids lk_L04_RowJoins_10_11) 60 S_L04_RowJoins m_L04_RowJoins (by
    intro us v h; unfold m_L04_RowJoins at h; split at h
    · rename_i v0 v1 v2 v3 v4 v5 v6 v7; exact q_L04_RowJoins v0 v1 v2 v3 v4 v5 v6 v7
    · cases h) false
noncomputable abbrev X125 : Ext := extT [(10, (gF S_L04_RowJoins m_L04_RowJoins))] X124
theorem x125 : XOK Tryd.prog X125 := xok1 x124 e_L04_RowJoins

/-- levee/leveelaw04.long -/
def L_L04_long : FuncId → Nat → Option (List Nat) := liveT [(40, 2, [0, 3]), (40, 1000002, [0]), (40, 2000002, [2])]
def M_L04_long : FuncId → Bool := fun _ => false
noncomputable def rd_L04_long_40_2 : List U → Rt
  | [.l v0, .i v1] =>
    (.test (decide (v1 < ln v0))
    (.test (inR v1 (ln v0))
    (.test (decide ((↑(ByteArray.size (cS (el v0 v1) 2)) : Int) > (2000 : Int)))
    (.stop 0 [.b true])
    (.next [.l v0, .i (w64 (v1 + (1 : Int)))]))
    .fail)
    (.stop 1 [.l v0]))
  | _ => .fail
def sp_L04_long_40_2 : LSp := ⟨20, ⟨[(0, .one (.l 25)), (3, .one (.i .i64))], []⟩, [(.ret, ⟨[(2, .one (.b))], []⟩), (.exit 0, ⟨[(0, .one (.l 25))], []⟩)]⟩
set_option maxRecDepth 100000 in
theorem rq_L04_long_40_2 (v0 : List (List PV)) (v1 : Int) : runK br Tryd.prog (callK br Tryd.prog X125 M_L04_long L_L04_long (lsT []) 40) M_L04_long (lsT [] 40 0) 40 0 (L_L04_long 40) (bodyOf Tryd.prog 40 2) (sp_L04_long_40_2.s.ts sp_L04_long_40_2.n [.l v0, .i v1]) (sp_L04_long_40_2.s.h [.l v0, .i v1]) (idc Tryd.prog 0 (L_L04_long 40) 2) =
    (rd_L04_long_40_2 [.l v0, .i v1]).go br (fun us' => some (.normal, sp_L04_long_40_2.s.ts sp_L04_long_40_2.n us', sp_L04_long_40_2.s.h us')) sp_L04_long_40_2.fin := by
  rw [← callF_eq, ← runF_eq]; kernel_rfl
theorem lo_L04_long_40_2 {R : Type} : LoopTells Tryd.prog X125 M_L04_long L_L04_long 0 (L_L04_long 40) (bodyOf Tryd.prog 40 2) (gL (R := R) sp_L04_long_40_2 rd_L04_long_40_2 br) :=
  loopTold (callK_ev (loopsOK_list rids noneIn) 40) (lsokIn (loopsOK_list rids noneIn) 40 0 2) (by kernel_rfl) sp_L04_long_40_2 rd_L04_long_40_2 rfl (by kernel_rfl) (by
    intro us v h; unfold rd_L04_long_40_2 at h; split at h
    · rename_i v0 v1; exact rq_L04_long_40_2 v0 v1
    · cases h)
noncomputable abbrev ll_L04_long_40_2 {R : Type} : List (Nat × Nat × Nat × Smy R) := (40, 0, 2, gL sp_L04_long_40_2 rd_L04_long_40_2 br) :: []
theorem lk_L04_long_40_2 {R : Type} : ∀ e ∈ ll_L04_long_40_2 (R := R), LoopTells Tryd.prog X125 M_L04_long L_L04_long e.2.1 (L_L04_long e.1) (bodyOf Tryd.prog e.1 e.2.2.1) e.2.2.2 := List.forall_mem_cons.2 ⟨lo_L04_long_40_2, noneIn⟩
def S_L04_long : FSp := ⟨[.one (.l 25)], [], [], [([.one (.b)], [])]⟩
noncomputable def m_L04_long : List U → Rt
  | [.l v0] =>
    (let r0 : Rs := (lres rd_L04_long_40_2 [U.l v0, U.i (0 : Int)])
    (.test (ok r0 0)
    (.stop 0 [.b (uB (out r0 0) 0)])
    (.test (ok r0 1)
    (.stop 0 [.b (decide (ln (uL (out r0 1) 0) > (60 : Int)))])
    .fail)))
  | _ => .fail
set_option maxRecDepth 100000 in
theorem q_L04_long (v0 : List (List PV)) : callK br Tryd.prog X125 M_L04_long L_L04_long (lsT ll_L04_long_40_2) 60 40 (encs [.l v0] 0 S_L04_long.ap) (encH [.l v0] (ws S_L04_long.ap) S_L04_long.ah) (fun y => fixR Tryd.prog S_L04_long.plan S_L04_long.ah.length y) =
    (m_L04_long [.l v0]).go br (fun _ => none) S_L04_long.fin := by
  rw [← callF_eq]; kernel_rfl
theorem e_L04_long : EOK Tryd.prog 40 (gF S_L04_long m_L04_long) :=
  eokTold mixed named x125 (loopsOK_list rids lk_L04_long_40_2) 60 S_L04_long m_L04_long (by
    intro us v h; unfold m_L04_long at h; split at h
    · rename_i v0; exact q_L04_long v0
    · cases h) false
noncomputable abbrev X126 : Ext := extT [(40, (gF S_L04_long m_L04_long))] X125
theorem x126 : XOK Tryd.prog X126 := xok1 x125 e_L04_long

/-- levee/leveelaw04.RowFits -/
def L_L04_RowFits : FuncId → Nat → Option (List Nat) := liveT [(11, 5, [0, 2, 4, 7, 8]), (11, 1000005, [0, 2, 4, 7]), (11, 2000005, [6])]
def M_L04_RowFits : FuncId → Bool := fun _ => false
noncomputable def rd_L04_RowFits_11_5 : List U → Rt
  | [.l v0, .i v1, .i v2, .l v3, .l v4, .l v5, .l v6] =>
    (.test (decide (v2 < ln v0))
    (.test (decide ((List.length v6 + 1) * 1 ≤ 140737488355328))
    (.next [.l v0, .i v1, .i (w64 (v2 + (1 : Int))), .l v3, .l v4, .l v5, .l (v6 ++ [[pB true]])])
    .fail)
    (.stop 0 [.l v0, .i v1, .l v3, .l v4, .l v5, .l v6]))
  | _ => .fail
def sp_L04_RowFits_11_5 : LSp := ⟨80, ⟨[(0, .one (.l 25)), (2, .one (.i .i64)), (4, .one (.ptr 0 0)), (7, .one (.all 1)), (8, .one (.i .i64))], [.box 54 [.one (.l 3), .one (.l 4), .one (.l 3)], .arr 4 true]⟩, [(.exit 0, ⟨[(0, .one (.l 25)), (2, .one (.i .i64)), (4, .one (.ptr 0 0)), (7, .one (.all 1))], [.box 54 [.one (.l 3), .one (.l 4), .one (.l 3)], .arr 4 true]⟩)]⟩
set_option maxRecDepth 100000 in
theorem rq_L04_RowFits_11_5 (v0 : List (List PV)) (v1 : Int) (v2 : Int) (v3 : List (List PV)) (v4 : List (List PV)) (v5 : List (List PV)) (v6 : List (List PV)) : runK br Tryd.prog (callK br Tryd.prog X126 M_L04_RowFits L_L04_RowFits (lsT []) 40) M_L04_RowFits (lsT [] 11 0) 40 0 (L_L04_RowFits 11) (bodyOf Tryd.prog 11 5) (sp_L04_RowFits_11_5.s.ts sp_L04_RowFits_11_5.n [.l v0, .i v1, .i v2, .l v3, .l v4, .l v5, .l v6]) (sp_L04_RowFits_11_5.s.h [.l v0, .i v1, .i v2, .l v3, .l v4, .l v5, .l v6]) (idc Tryd.prog 0 (L_L04_RowFits 11) 5) =
    (rd_L04_RowFits_11_5 [.l v0, .i v1, .i v2, .l v3, .l v4, .l v5, .l v6]).go br (fun us' => some (.normal, sp_L04_RowFits_11_5.s.ts sp_L04_RowFits_11_5.n us', sp_L04_RowFits_11_5.s.h us')) sp_L04_RowFits_11_5.fin := by
  rw [← callF_eq, ← runF_eq]; kernel_rfl
theorem lo_L04_RowFits_11_5 {R : Type} : LoopTells Tryd.prog X126 M_L04_RowFits L_L04_RowFits 0 (L_L04_RowFits 11) (bodyOf Tryd.prog 11 5) (gL (R := R) sp_L04_RowFits_11_5 rd_L04_RowFits_11_5 br) :=
  loopTold (callK_ev (loopsOK_list rids noneIn) 40) (lsokIn (loopsOK_list rids noneIn) 11 0 5) (by kernel_rfl) sp_L04_RowFits_11_5 rd_L04_RowFits_11_5 rfl (by kernel_rfl) (by
    intro us v h; unfold rd_L04_RowFits_11_5 at h; split at h
    · rename_i v0 v1 v2 v3 v4 v5 v6; exact rq_L04_RowFits_11_5 v0 v1 v2 v3 v4 v5 v6
    · cases h)
noncomputable abbrev ll_L04_RowFits_11_5 {R : Type} : List (Nat × Nat × Nat × Smy R) := (11, 0, 5, gL sp_L04_RowFits_11_5 rd_L04_RowFits_11_5 br) :: []
theorem lk_L04_RowFits_11_5 {R : Type} : ∀ e ∈ ll_L04_RowFits_11_5 (R := R), LoopTells Tryd.prog X126 M_L04_RowFits L_L04_RowFits e.2.1 (L_L04_RowFits e.1) (bodyOf Tryd.prog e.1 e.2.2.1) e.2.2.2 := List.forall_mem_cons.2 ⟨lo_L04_RowFits_11_5, noneIn⟩
def S_L04_RowFits : FSp := ⟨[.one (.l 25), .agg [.l 3, .l 4, .l 3], .one (.i .i64)], [], [], [([.one (.b)], [])]⟩
noncomputable def m_L04_RowFits : List U → Rt
  | [.l v0, .l v1, .l v2, .l v3, .i v4] =>
    (let r0 : Rs := (Rt.res (m_L04_long [U.l v0]))
    (.test (ok r0 0)
    (.test (uB (out r0 0) 0)
    (.stop 0 [.b true])
    (let r1 : Rs := (Rt.res (m_row_Fits [U.l v0, U.l v1, U.l v2]))
    (.test (ok r1 0)
    (.test (!uB (out r1 0) 0)
    (.stop 0 [.b true])
    (.test (decide (v4 < (0 : Int)))
    (.stop 0 [.b true])
    (.test (decide (v4 ≥ ln v0))
    (.stop 0 [.b true])
    (let r2 : Rs := (lres rd_L04_RowFits_11_5 [U.l v0, U.i v4, U.i (0 : Int), U.l v1, U.l v2, U.l v3, U.l []])
    (.test (ok r2 0)
    (.test (decide ((0 + List.length (uL (out r2 0) 0)) * 32 ≤ 140737488355328))
    (.test (inR (uI (out r2 0) 1) (ln ([] ++ uL (out r2 0) 0)))
    (.test (decide (Int.toNat (uI (out r2 0) 1) < List.length ([] ++ uL (out r2 0) 0)))
    (let r3 : Rs := (Rt.res (m_row_Fits [U.l (uL (out r2 0) 0), U.l (uL (out r2 0) 2), U.l (uL (out r2 0) 5)]))
    (.test (ok r3 0)
    (.test (uB (out r3 0) 0)
    (let r4 : Rs := (Rt.res (m_row_Fits [U.l (List.set ([] ++ uL (out r2 0) 0) (Int.toNat (uI (out r2 0) 1)) (setCells (el ([] ++ uL (out r2 0) 0) (uI (out r2 0) 1)) 0 [pI (0 : Int), pI (0 : Int), pS { data := #[] }])), U.l (uL (out r2 0) 2), U.l (uL (out r2 0) 3)]))
    (.test (ok r4 0)
    (.test (inR (uI (out r2 0) 1) (ln (uL (out r2 0) 3)))
    (.test (cB (el (uL (out r2 0) 3) (uI (out r2 0) 1)) 0)
    (.stop 0 [.b (uB (out r4 0) 0 == true)])
    (.test (inR (uI (out r2 0) 1) (ln (uL (out r2 0) 2)))
    (.stop 0 [.b (uB (out r4 0) 0 == (cI (el (uL (out r2 0) 2) (uI (out r2 0) 1)) 0 == (0 : Int)))])
    .fail))
    .fail)
    .fail))
    (.stop 0 [.b false]))
    .fail))
    .fail)
    .fail)
    .fail)
    .fail)))))
    .fail)))
    .fail))
  | _ => .fail
set_option maxRecDepth 100000 in
theorem q_L04_RowFits (v0 : List (List PV)) (v1 : List (List PV)) (v2 : List (List PV)) (v3 : List (List PV)) (v4 : Int) : callK br Tryd.prog X126 M_L04_RowFits L_L04_RowFits (lsT ll_L04_RowFits_11_5) 60 11 (encs [.l v0, .l v1, .l v2, .l v3, .i v4] 0 S_L04_RowFits.ap) (encH [.l v0, .l v1, .l v2, .l v3, .i v4] (ws S_L04_RowFits.ap) S_L04_RowFits.ah) (fun y => fixR Tryd.prog S_L04_RowFits.plan S_L04_RowFits.ah.length y) =
    (m_L04_RowFits [.l v0, .l v1, .l v2, .l v3, .i v4]).go br (fun _ => none) S_L04_RowFits.fin := by
  rw [← callF_eq]; kernel_rfl
theorem e_L04_RowFits : EOK Tryd.prog 11 (gF S_L04_RowFits m_L04_RowFits) :=
  eokTold mixed named x126 (loopsOK_list rids lk_L04_RowFits_11_5) 60 S_L04_RowFits m_L04_RowFits (by
    intro us v h; unfold m_L04_RowFits at h; split at h
    · rename_i v0 v1 v2 v3 v4; exact q_L04_RowFits v0 v1 v2 v3 v4
    · cases h) false
noncomputable abbrev X127 : Ext := extT [(11, (gF S_L04_RowFits m_L04_RowFits))] X126
theorem x127 : XOK Tryd.prog X127 := xok1 x126 e_L04_RowFits

/-- levee/leveeref02.May -/
def L_R02_May : FuncId → Nat → Option (List Nat) := liveT [(66, 2, [0, 3]), (66, 1000002, []), (66, 2000002, [2])]
def M_R02_May : FuncId → Bool := fun _ => false
noncomputable def rd_R02_May_66_2 : List U → Rt
  | [.l v0, .i v1] =>
    (.test (decide (v1 < ln v0))
    (.test (inR v1 (ln v0))
    (let r0 : Rs := (Rt.res (m_R01_May [U.i (cI (el v0 v1) 0), U.i (cI (el v0 v1) 1), U.s (cS (el v0 v1) 2)]))
    (.test (ok r0 0)
    (.test (!uB (out r0 0) 0)
    (.stop 0 [.b false])
    (.next [.l v0, .i (w64 (v1 + (1 : Int)))]))
    .fail))
    .fail)
    (.stop 1 []))
  | _ => .fail
def sp_R02_May_66_2 : LSp := ⟨16, ⟨[(0, .one (.l 25)), (3, .one (.i .i64))], []⟩, [(.ret, ⟨[(2, .one (.b))], []⟩), (.exit 0, ⟨[], []⟩)]⟩
set_option maxRecDepth 100000 in
theorem rq_R02_May_66_2 (v0 : List (List PV)) (v1 : Int) : runK br Tryd.prog (callK br Tryd.prog X127 M_R02_May L_R02_May (lsT []) 40) M_R02_May (lsT [] 66 0) 40 0 (L_R02_May 66) (bodyOf Tryd.prog 66 2) (sp_R02_May_66_2.s.ts sp_R02_May_66_2.n [.l v0, .i v1]) (sp_R02_May_66_2.s.h [.l v0, .i v1]) (idc Tryd.prog 0 (L_R02_May 66) 2) =
    (rd_R02_May_66_2 [.l v0, .i v1]).go br (fun us' => some (.normal, sp_R02_May_66_2.s.ts sp_R02_May_66_2.n us', sp_R02_May_66_2.s.h us')) sp_R02_May_66_2.fin := by
  rw [← callF_eq, ← runF_eq]; kernel_rfl
theorem lo_R02_May_66_2 {R : Type} : LoopTells Tryd.prog X127 M_R02_May L_R02_May 0 (L_R02_May 66) (bodyOf Tryd.prog 66 2) (gL (R := R) sp_R02_May_66_2 rd_R02_May_66_2 br) :=
  loopTold (callK_ev (loopsOK_list rids noneIn) 40) (lsokIn (loopsOK_list rids noneIn) 66 0 2) (by kernel_rfl) sp_R02_May_66_2 rd_R02_May_66_2 rfl (by kernel_rfl) (by
    intro us v h; unfold rd_R02_May_66_2 at h; split at h
    · rename_i v0 v1; exact rq_R02_May_66_2 v0 v1
    · cases h)
noncomputable abbrev ll_R02_May_66_2 {R : Type} : List (Nat × Nat × Nat × Smy R) := (66, 0, 2, gL sp_R02_May_66_2 rd_R02_May_66_2 br) :: []
theorem lk_R02_May_66_2 {R : Type} : ∀ e ∈ ll_R02_May_66_2 (R := R), LoopTells Tryd.prog X127 M_R02_May L_R02_May e.2.1 (L_R02_May e.1) (bodyOf Tryd.prog e.1 e.2.2.1) e.2.2.2 := List.forall_mem_cons.2 ⟨lo_R02_May_66_2, noneIn⟩
def S_R02_May : FSp := ⟨[.one (.l 25)], [], [], [([.one (.b)], [])]⟩
noncomputable def m_R02_May : List U → Rt
  | [.l v0] =>
    (let r0 : Rs := (lres rd_R02_May_66_2 [U.l v0, U.i (0 : Int)])
    (.test (ok r0 0)
    (.stop 0 [.b (uB (out r0 0) 0)])
    (.test (ok r0 1)
    (.stop 0 [.b true])
    .fail)))
  | _ => .fail
set_option maxRecDepth 100000 in
theorem q_R02_May (v0 : List (List PV)) : callK br Tryd.prog X127 M_R02_May L_R02_May (lsT ll_R02_May_66_2) 60 66 (encs [.l v0] 0 S_R02_May.ap) (encH [.l v0] (ws S_R02_May.ap) S_R02_May.ah) (fun y => fixR Tryd.prog S_R02_May.plan S_R02_May.ah.length y) =
    (m_R02_May [.l v0]).go br (fun _ => none) S_R02_May.fin := by
  rw [← callF_eq]; kernel_rfl
theorem e_R02_May : EOK Tryd.prog 66 (gF S_R02_May m_R02_May) :=
  eokTold mixed named x127 (loopsOK_list rids lk_R02_May_66_2) 60 S_R02_May m_R02_May (by
    intro us v h; unfold m_R02_May at h; split at h
    · rename_i v0; exact q_R02_May v0
    · cases h) false
noncomputable abbrev X128 : Ext := extT [(66, (gF S_R02_May m_R02_May))] X127
theorem x128 : XOK Tryd.prog X128 := xok1 x127 e_R02_May

/-- levee/leveeref04.May -/
def L_R04_May : FuncId → Nat → Option (List Nat) := liveT []
def M_R04_May : FuncId → Bool := fun _ => false
def S_R04_May : FSp := ⟨[.one (.l 25)], [], [], [([.one (.b)], [])]⟩
noncomputable def m_R04_May : List U → Rt
  | [.l v0] =>
    (.test (decide (ln v0 ≤ (40 : Int)))
    (let r0 : Rs := (Rt.res (m_R02_May [U.l v0]))
    (.test (ok r0 0)
    (.stop 0 [.b (uB (out r0 0) 0)])
    .fail))
    (.stop 0 [.b false]))
  | _ => .fail
set_option maxRecDepth 100000 in
theorem q_R04_May (v0 : List (List PV)) : callK br Tryd.prog X128 M_R04_May L_R04_May (lsT []) 60 41 (encs [.l v0] 0 S_R04_May.ap) (encH [.l v0] (ws S_R04_May.ap) S_R04_May.ah) (fun y => fixR Tryd.prog S_R04_May.plan S_R04_May.ah.length y) =
    (m_R04_May [.l v0]).go br (fun _ => none) S_R04_May.fin := by
  rw [← callF_eq]; kernel_rfl
theorem e_R04_May : EOK Tryd.prog 41 (gF S_R04_May m_R04_May) :=
  eokTold mixed named x128 (loopsOK_list rids noneIn) 60 S_R04_May m_R04_May (by
    intro us v h; unfold m_R04_May at h; split at h
    · rename_i v0; exact q_R04_May v0
    · cases h) false
noncomputable abbrev X129 : Ext := extT [(41, (gF S_R04_May m_R04_May))] X128
theorem x129 : XOK Tryd.prog X129 := xok1 x128 e_R04_May

/-- levee/leveelaw04.RowTexts -/
def L_L04_RowTexts : FuncId → Nat → Option (List Nat) := liveT []
def M_L04_RowTexts : FuncId → Bool := fun _ => false
def S_L04_RowTexts : FSp := ⟨[.one (.l 25), .one (.l 25)], [], [], [([.one (.b)], [])]⟩
noncomputable def m_L04_RowTexts : List U → Rt
  | [.l v0, .l v1] =>
    (let r0 : Rs := (Rt.res (m_R04_May [U.l v0]))
    (.test (ok r0 0)
    (.test (!uB (out r0 0) 0)
    (.stop 0 [.b true])
    (let r1 : Rs := (Rt.res (m_R04_May [U.l v1]))
    (.test (ok r1 0)
    (.test (!uB (out r1 0) 0)
    (.stop 0 [.b true])
    (let r2 : Rs := (Rt.res (m_row_Text [U.l v0]))
    (.test (ok r2 0)
    (let r3 : Rs := (Rt.res (m_row_Text [U.l v1]))
    (.test (ok r3 0)
    (let r4 : Rs := (Rt.res (m_R02_Same [U.l v0, U.l v1]))
    (.test (ok r4 0)
    (.stop 0 [.b ((ByteArray.toList (uS (out r2 0) 0) == ByteArray.toList (uS (out r3 0) 0)) == uB (out r4 0) 0)])
    .fail))
    .fail))
    .fail)))
    .fail)))
    .fail))
  | _ => .fail
set_option maxRecDepth 100000 in
theorem q_L04_RowTexts (v0 : List (List PV)) (v1 : List (List PV)) : callK br Tryd.prog X129 M_L04_RowTexts L_L04_RowTexts (lsT []) 60 12 (encs [.l v0, .l v1] 0 S_L04_RowTexts.ap) (encH [.l v0, .l v1] (ws S_L04_RowTexts.ap) S_L04_RowTexts.ah) (fun y => fixR Tryd.prog S_L04_RowTexts.plan S_L04_RowTexts.ah.length y) =
    (m_L04_RowTexts [.l v0, .l v1]).go br (fun _ => none) S_L04_RowTexts.fin := by
  rw [← callF_eq]; kernel_rfl
theorem e_L04_RowTexts : EOK Tryd.prog 12 (gF S_L04_RowTexts m_L04_RowTexts) :=
  eokTold mixed named x129 (loopsOK_list rids noneIn) 60 S_L04_RowTexts m_L04_RowTexts (by
    intro us v h; unfold m_L04_RowTexts at h; split at h
    · rename_i v0 v1; exact q_L04_RowTexts v0 v1
    · cases h) false
noncomputable abbrev X130 : Ext := extT [(12, (gF S_L04_RowTexts m_L04_RowTexts))] X129
theorem x130 : XOK Tryd.prog X130 := xok1 x129 e_L04_RowTexts

/-- levee/leveelaw04.RowParts -/
def L_L04_RowParts : FuncId → Nat → Option (List Nat) := liveT []
def M_L04_RowParts : FuncId → Bool := fun _ => false
def S_L04_RowParts : FSp := ⟨[.one (.l 25), .one (.l 25)], [], [], [([.one (.b)], [])]⟩
noncomputable def m_L04_RowParts : List U → Rt
  | [.l v0, .l v1] =>
    (let r0 : Rs := (Rt.res (m_L04_long [U.l v0]))
    (.test (ok r0 0)
    (.test (uB (out r0 0) 0)
    (.stop 0 [.b true])
    (let r1 : Rs := (Rt.res (m_L04_long [U.l v1]))
    (.test (ok r1 0)
    (.test (uB (out r1 0) 0)
    (.stop 0 [.b true])
    (let r2 : Rs := (Rt.res (m_row_Text [U.l v0]))
    (.test (ok r2 0)
    (let r3 : Rs := (Rt.res (m_row_Text [U.l v1]))
    (.test (ok r3 0)
    (let r4 : Rs := (Rt.res (m_row_Join [U.l [[PV.lst 25 v0], [PV.lst 25 v1]]]))
    (.test (ok r4 0)
    (let r5 : Rs := (Rt.res (m_row_Text [U.l (uL (out r4 0) 0)]))
    (.test (ok r5 0)
    (.test (ln v0 == (0 : Int))
    (.test (decide (ln v0 > (0 : Int)))
    (.test (decide (ln v1 > (0 : Int)))
    (.stop 0 [.b true])
    (.stop 0 [.b (ByteArray.toList (uS (out r5 0) 0) == ByteArray.toList (uS (out r2 0) 0))]))
    (.test (ByteArray.toList (uS (out r5 0) 0) == ByteArray.toList (uS (out r3 0) 0))
    (.test (decide (ln v1 > (0 : Int)))
    (.stop 0 [.b true])
    (.stop 0 [.b (ByteArray.toList (uS (out r5 0) 0) == ByteArray.toList (uS (out r2 0) 0))]))
    (.stop 0 [.b false])))
    (.test (ln v1 == (0 : Int))
    (.test (decide (ln v0 > (0 : Int)))
    (.test (decide (ln v1 > (0 : Int)))
    (.stop 0 [.b true])
    (.stop 0 [.b (ByteArray.toList (uS (out r5 0) 0) == ByteArray.toList (uS (out r2 0) 0))]))
    (.test (ByteArray.toList (uS (out r5 0) 0) == ByteArray.toList (uS (out r3 0) 0))
    (.test (decide (ln v1 > (0 : Int)))
    (.stop 0 [.b true])
    (.stop 0 [.b (ByteArray.toList (uS (out r5 0) 0) == ByteArray.toList (uS (out r2 0) 0))]))
    (.stop 0 [.b false])))
    (.test (decide ((↑(ByteArray.size (uS (out r2 0) 0)) : Int) > (1 : Int)))
    (.test (decide ((↑(ByteArray.size (uS (out r3 0) 0)) : Int) > (1 : Int)))
    (.test (decide ((0 : Int) ≤ (0 : Int) ∧ (0 : Int) ≤ w64 ((↑(ByteArray.size (uS (out r2 0) 0)) : Int) - (1 : Int)) ∧ w64 ((↑(ByteArray.size (uS (out r2 0) 0)) : Int) - (1 : Int)) ≤ (↑(ByteArray.size (uS (out r2 0) 0)) : Int)))
    (.test (decide (ByteArray.size (ByteArray.extract (uS (out r2 0) 0) 0 (Int.toNat (w64 ((↑(ByteArray.size (uS (out r2 0) 0)) : Int) - (1 : Int))))) + 2 ≤ 9223372036854775807))
    (.test (decide ((0 : Int) ≤ (1 : Int) ∧ (1 : Int) ≤ (↑(ByteArray.size (uS (out r3 0) 0)) : Int) ∧ (↑(ByteArray.size (uS (out r3 0) 0)) : Int) ≤ (↑(ByteArray.size (uS (out r3 0) 0)) : Int)))
    (.test (decide (ByteArray.size (ByteArray.extract (uS (out r2 0) 0) 0 (Int.toNat (w64 ((↑(ByteArray.size (uS (out r2 0) 0)) : Int) - (1 : Int)))) ++ { data := #[(44 : UInt8), (32 : UInt8)] }) + ByteArray.size (ByteArray.extract (uS (out r3 0) 0) 1 (Int.toNat (↑(ByteArray.size (uS (out r3 0) 0)) : Int))) ≤ 9223372036854775807))
    (.stop 0 [.b (ByteArray.toList (uS (out r5 0) 0) == ByteArray.toList (ByteArray.extract (uS (out r2 0) 0) 0 (Int.toNat (w64 ((↑(ByteArray.size (uS (out r2 0) 0)) : Int) - (1 : Int)))) ++ { data := #[(44 : UInt8), (32 : UInt8)] } ++ ByteArray.extract (uS (out r3 0) 0) 1 (Int.toNat (↑(ByteArray.size (uS (out r3 0) 0)) : Int))))])
    .fail)
    .fail)
    .fail)
    .fail)
    (.stop 0 [.b false]))
    (.stop 0 [.b false]))))
    .fail))
    .fail))
    .fail))
    .fail)))
    .fail)))
    .fail))
  | _ => .fail
set_option maxRecDepth 100000 in
theorem q_L04_RowParts (v0 : List (List PV)) (v1 : List (List PV)) : callK br Tryd.prog X130 M_L04_RowParts L_L04_RowParts (lsT []) 60 13 (encs [.l v0, .l v1] 0 S_L04_RowParts.ap) (encH [.l v0, .l v1] (ws S_L04_RowParts.ap) S_L04_RowParts.ah) (fun y => fixR Tryd.prog S_L04_RowParts.plan S_L04_RowParts.ah.length y) =
    (m_L04_RowParts [.l v0, .l v1]).go br (fun _ => none) S_L04_RowParts.fin := by
  rw [← callF_eq]; kernel_rfl
theorem e_L04_RowParts : EOK Tryd.prog 13 (gF S_L04_RowParts m_L04_RowParts) :=
  eokTold mixed named x130 (loopsOK_list rids noneIn) 60 S_L04_RowParts m_L04_RowParts (by
    intro us v h; unfold m_L04_RowParts at h; split at h
    · rename_i v0 v1; exact q_L04_RowParts v0 v1
    · cases h) false
noncomputable abbrev X131 : Ext := extT [(13, (gF S_L04_RowParts m_L04_RowParts))] X130
theorem x131 : XOK Tryd.prog X131 := xok1 x130 e_L04_RowParts

end Go.Proofs.YtccgmaeflmbmlaaDoor
