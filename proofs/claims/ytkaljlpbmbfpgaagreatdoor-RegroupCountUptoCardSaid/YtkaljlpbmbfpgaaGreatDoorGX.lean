/- Texts of this seat, one behind the other. -/
import Derived.Test.YtkaljlpbmbfpgaaGreatDoorKX
import Derived.Test.YtkaljlpbmbfpgaaGreatDoorTE
set_option linter.unusedVariables false
namespace Go.Proofs.YtkaljlpbmbfpgaaGreatDoor
open Go Go.Pu

/-- levee/bag.Sum -/
def L_zm : FuncId → Nat → Option (List Nat) := liveT [(56, 7, [0, 3, 4, 5]), (56, 1000007, [0, 3, 4, 5]), (56, 2000007, [2]), (56, 5, [0, 99000003, 4]), (56, 1000005, [3]), (56, 2000005, [2])]
def M_zm : FuncId → Bool := fun f => f == 76
noncomputable def rd_zm_56_7 : List U → Rt
 | [.i v0, .l v1, .l v2, .i v3, .l v4] =>
  (.test (decide (v0 < ln v1))
  (.test (inR v0 (ln v1))
  (.test (decide (Int.toNat v0 < List.length v1))
  (let r0 : Rs := (Rt.res (m_ze [U.l (cL (el v1 v0) 0), U.l v4]))
  (.test (ok r0 0)
  (.test (uI (out r0 0) 0 == (0 : Int))
  (.test (inR v0 (ln v1))
  (.test (decide (Int.toNat v0 < List.length v1))
  (.next [.i (w64 (v0 + (1 : Int))), .l v1, .l v2, .i (w64 (v3 + cI (el v1 v0) 1)), .l v4])
  .fail)
  .fail)
  (.stop 0 [.i v0, .l v1, .l v2, .i v3, .l v4]))
  .fail))
  .fail)
  .fail)
  (.stop 0 [.i v0, .l v1, .l v2, .i v3, .l v4]))
 | _ => .fail
def sp_zm_56_7 : LSp := ⟨55, ⟨[(0, .one (.all 0)), (3, .one (.all 1)), (4, .one (.i .i64)), (5, .one (.ptr 2 0))], [.arr 49 true, .arr 49 true, .box 49 [.one (.all 3), .one (.i .i64)], .arr 39 true]⟩, [(.exit 2, ⟨[(0, .one (.all 0)), (3, .one (.all 1)), (4, .one (.i .i64)), (5, .one (.ptr 2 0))], [.arr 49 true, .arr 49 true, .box 49 [.one (.all 3), .one (.i .i64)], .arr 39 true]⟩)]⟩
set_option maxRecDepth 100000 in
theorem rq_zm_56_7 (v0 : Int) (v1 v2 : List (List PV)) (v3 : Int) (v4 : List (List PV)) : runK br Tryz.prog (callK br Tryz.prog XJ M_zm L_zm (lsT []) 40) M_zm (lsT [] 56 0) 40 0 (L_zm 56) (bodyOf Tryz.prog 56 7) (sp_zm_56_7.s.ts sp_zm_56_7.n [.i v0, .l v1, .l v2, .i v3, .l v4]) (sp_zm_56_7.s.h [.i v0, .l v1, .l v2, .i v3, .l v4]) (idc Tryz.prog 0 (L_zm 56) 7) =
  (rd_zm_56_7 [.i v0, .l v1, .l v2, .i v3, .l v4]).go br (fun us' => some (.normal, sp_zm_56_7.s.ts sp_zm_56_7.n us', sp_zm_56_7.s.h us')) sp_zm_56_7.fin := by
 rw [← callF_eq, ← runF_eq]; kernel_rfl
theorem lo_zm_56_7 {R : Type} : LoopTells Tryz.prog XJ M_zm L_zm 0 (L_zm 56) (bodyOf Tryz.prog 56 7) (gL (R := R) sp_zm_56_7 rd_zm_56_7 br) :=
 loopTold (callK_ev (loopsOK_list rids noneIn) 40) (lsokIn (loopsOK_list rids noneIn) 56 0 7) (by kernel_rfl) sp_zm_56_7 rd_zm_56_7 rfl (by kernel_rfl) (by
  intro us v h; unfold rd_zm_56_7 at h; split at h
  ·rename_i v0 v1 v2 v3 v4; exact rq_zm_56_7 v0 v1 v2 v3 v4
  ·cases h)
noncomputable abbrev ll_zm_56_7 {R : Type} : List (Nat × Nat × Nat × Smy R) := (56, 0, 7, gL sp_zm_56_7 rd_zm_56_7 br) :: []
theorem lk_zm_56_7 {R : Type} : ∀ e ∈ ll_zm_56_7 (R := R), LoopTells Tryz.prog XJ M_zm L_zm e.2.1 (L_zm e.1) (bodyOf Tryz.prog e.1 e.2.2.1) e.2.2.2 := List.forall_mem_cons.2 ⟨lo_zm_56_7, noneIn⟩
noncomputable def rd_zm_56_5 : List U → Rt
 | [.i v0, .l v1, .l v2] =>
  (.test (decide (v0 < ln v1))
  (.test (inR v0 (ln v1))
  (.test (decide (Int.toNat v0 < List.length v1))
  (.test (decide ((0 + List.length (cL (el v1 v0) 0)) * 32 ≤ 140737488355328))
  (let r0 : Rs := (lres rd_zm_56_7 [U.i v0, U.l v1, U.l v2, U.i (0 : Int), U.l (cL (el v1 v0) 0)])
  (.test (ok r0 0)
  (.test (uI (out r0 0) 3 != (0 : Int))
  (.test (decide ((List.length (uL (out r0 0) 2) + 1) * 32 ≤ 140737488355328))
  (.next [.i (uI (out r0 0) 0), .l (uL (out r0 0) 1), .l (uL (out r0 0) 2 ++ [[PV.lst 39 (uL (out r0 0) 4), pI (uI (out r0 0) 3)]])])
  .fail)
  (.next [.i (uI (out r0 0) 0), .l (uL (out r0 0) 1), .l (uL (out r0 0) 2)]))
  .fail))
  .fail)
  .fail)
  .fail)
  (.stop 0 [.l v2]))
 | _ => .fail
def sp_zm_56_5 : LSp := ⟨55, ⟨[(0, .one (.all 0)), (3, .one (.all 1)), (4, .one (.i .i64))], [.arr 49 true, .arr 49 true]⟩, [(.exit 0, ⟨[(3, .one (.all 0))], [.arr 49 true]⟩)]⟩
set_option maxRecDepth 100000 in
theorem rq_zm_56_5 (v0 : Int) (v1 v2 : List (List PV)) : runK br Tryz.prog (callK br Tryz.prog XJ M_zm L_zm (lsT ll_zm_56_7) 40) M_zm (lsT ll_zm_56_7 56 0) 40 0 (L_zm 56) (bodyOf Tryz.prog 56 5) (sp_zm_56_5.s.ts sp_zm_56_5.n [.i v0, .l v1, .l v2]) (sp_zm_56_5.s.h [.i v0, .l v1, .l v2]) (idc Tryz.prog 0 (L_zm 56) 5) =
  (rd_zm_56_5 [.i v0, .l v1, .l v2]).go br (fun us' => some (.normal, sp_zm_56_5.s.ts sp_zm_56_5.n us', sp_zm_56_5.s.h us')) sp_zm_56_5.fin := by
 rw [← callF_eq, ← runF_eq]; kernel_rfl
theorem lo_zm_56_5 {R : Type} : LoopTells Tryz.prog XJ M_zm L_zm 0 (L_zm 56) (bodyOf Tryz.prog 56 5) (gL (R := R) sp_zm_56_5 rd_zm_56_5 br) :=
 loopTold (callK_ev (loopsOK_list rids lk_zm_56_7) 40) (lsokIn (loopsOK_list rids lk_zm_56_7) 56 0 5) (by kernel_rfl) sp_zm_56_5 rd_zm_56_5 rfl (by kernel_rfl) (by
  intro us v h; unfold rd_zm_56_5 at h; split at h
  ·rename_i v0 v1 v2; exact rq_zm_56_5 v0 v1 v2
  ·cases h)
noncomputable abbrev ll_zm_56_5 {R : Type} : List (Nat × Nat × Nat × Smy R) := (56, 0, 5, gL sp_zm_56_5 rd_zm_56_5 br) :: ll_zm_56_7
theorem lk_zm_56_5 {R : Type} : ∀ e ∈ ll_zm_56_5 (R := R), LoopTells Tryz.prog XJ M_zm L_zm e.2.1 (L_zm e.1) (bodyOf Tryz.prog e.1 e.2.2.1) e.2.2.2 := List.forall_mem_cons.2 ⟨lo_zm_56_5, lk_zm_56_7⟩
def S_zm : FSp := ⟨[.one (.l 49)], [], [], [([.one (.all 0)], [.arr 49 true])]⟩
noncomputable def m_zm : List U → Rt
 | [.l v0] =>
  (.test (decide ((0 + List.length v0) * 32 ≤ 140737488355328))
  (let r0 : Rs := (Rt.res (m_zk [U.l v0]))
  (.test (ok r0 0)
  (let r1 : Rs := (lres rd_zm_56_5 [U.i (0 : Int), U.l (uL (out r0 0) 0), U.l []])
  (.test (ok r1 0)
  (.stop 0 [.l (uL (out r1 0) 0)])
  .fail))
  .fail))
  .fail)
 | _ => .fail
set_option maxRecDepth 100000 in
theorem q_zm (v0 : List (List PV)) : callK br Tryz.prog XJ M_zm L_zm (lsT ll_zm_56_5) 60 56 (encs [.l v0] 0 S_zm.ap) (encH [.l v0] (ws S_zm.ap) S_zm.ah) (fun y => fixR Tryz.prog S_zm.plan S_zm.ah.length y) =
  (m_zm [.l v0]).go br (fun _ => none) S_zm.fin := by
 rw [← callF_eq]; kernel_rfl
theorem e_zm : EOK Tryz.prog 56 (gF S_zm m_zm) :=
 eokTold mixed named xJ (loopsOK_list rids lk_zm_56_5) 60 S_zm m_zm (by
  intro us v h; unfold m_zm at h; split at h
  ·rename_i v0; exact q_zm v0
  ·cases h) false
noncomputable abbrev X101 : Ext := extT [(56, (gF S_zm m_zm))] XJ
theorem x101 : XOK Tryz.prog X101 := xok1 xJ e_zm

/-- levee/bag.fits -/
def L_zn : FuncId → Nat → Option (List Nat) := liveT []
def M_zn : FuncId → Bool := fun _ => false
def S_zn : FSp := ⟨[.one (.i .i64)], [], [], [([.one (.b)], [])]⟩
noncomputable def m_zn : List U → Rt
 | [.i v0] =>
  (.test (decide (v0 ≥ (-1000000000 : Int)))
  (.stop 0 [.b (decide (v0 ≤ (1000000000 : Int)))])
  (.stop 0 [.b false]))
 | _ => .fail
set_option maxRecDepth 100000 in
theorem q_zn (v0 : Int) : callK br Tryz.prog X101 M_zn L_zn (lsT []) 60 72 (encs [.i v0] 0 S_zn.ap) (encH [.i v0] (ws S_zn.ap) S_zn.ah) (fun y => fixR Tryz.prog S_zn.plan S_zn.ah.length y) =
  (m_zn [.i v0]).go br (fun _ => none) S_zn.fin := by
 rw [← callF_eq]; kernel_rfl
theorem e_zn : EOK Tryz.prog 72 (gF S_zn m_zn) :=
 eokTold mixed named x101 (loopsOK_list rids noneIn) 60 S_zn m_zn (by
  intro us v h; unfold m_zn at h; split at h
  ·rename_i v0; exact q_zn v0
  ·cases h) false
noncomputable abbrev X102 : Ext := extT [(72, (gF S_zn m_zn))] X101
theorem x102 : XOK Tryz.prog X102 := xok1 x101 e_zn

/-- levee/value.May -/
def L_zo : FuncId → Nat → Option (List Nat) := liveT []
def M_zo : FuncId → Bool := fun _ => false
def S_zo : FSp := ⟨[.agg [.i .i64, .i .i64, .s]], [], [], [([.one (.b)], [])]⟩
noncomputable def m_zo : List U → Rt
 | [.i v0, .i v1, .s v2] =>
  (.test (v0 == (0 : Int))
  (.stop 0 [.b (v0 == (0 : Int) && (v1 == (0 : Int) && (ByteArray.toList v2 == [] && true)))])
  (.test (v0 == (1 : Int))
  (.test (v1 == (0 : Int))
  (.stop 0 [.b (ByteArray.toList v2 == [])])
  (.test (v1 == (1 : Int))
  (.stop 0 [.b (ByteArray.toList v2 == [])])
  (.stop 0 [.b false])))
  (.test (v0 == (2 : Int))
  (.stop 0 [.b (ByteArray.toList v2 == [])])
  (.test (v0 == (3 : Int))
  (.test (v1 == (0 : Int))
  (.stop 0 [.b (decide ((↑(ByteArray.size v2) : Int) ≤ (1000 : Int)))])
  (.stop 0 [.b false]))
  (.stop 0 [.b false])))))
 | _ => .fail
set_option maxRecDepth 100000 in
theorem q_zo (v0 v1 : Int) (v2 : ByteArray) : callK br Tryz.prog X102 M_zo L_zo (lsT []) 60 94 (encs [.i v0, .i v1, .s v2] 0 S_zo.ap) (encH [.i v0, .i v1, .s v2] (ws S_zo.ap) S_zo.ah) (fun y => fixR Tryz.prog S_zo.plan S_zo.ah.length y) =
  (m_zo [.i v0, .i v1, .s v2]).go br (fun _ => none) S_zo.fin := by
 rw [← callF_eq]; kernel_rfl
theorem e_zo : EOK Tryz.prog 94 (gF S_zo m_zo) :=
 eokTold mixed named x102 (loopsOK_list rids noneIn) 60 S_zo m_zo (by
  intro us v h; unfold m_zo at h; split at h
  ·rename_i v0 v1 v2; exact q_zo v0 v1 v2
  ·cases h) false
noncomputable abbrev X103 : Ext := extT [(94, (gF S_zo m_zo))] X102
theorem x103 : XOK Tryz.prog X103 := xok1 x102 e_zo

/-- levee/row.May -/
def L_zp : FuncId → Nat → Option (List Nat) := liveT [(104, 2, [0, 1, 7, 8]), (104, 1000002, []), (104, 2000002, [4])]
def M_zp : FuncId → Bool := fun _ => false
noncomputable def rd_zp_104_2 : List U → Rt
 | [.l v0, .i v1, .i v2] =>
  (.test (decide (v2 < v1))
  (.test (inR v2 (ln v0))
  (let r0 : Rs := (Rt.res (m_zo [U.i (cI (el v0 v2) 0), U.i (cI (el v0 v2) 1), U.s (cS (el v0 v2) 2)]))
  (.test (ok r0 0)
  (.test (!uB (out r0 0) 0)
  (.stop 0 [.i v2])
  (.next [.l v0, .i v1, .i (w64 (v2 + (1 : Int)))]))
  .fail))
  .fail)
  (.stop 1 []))
 | _ => .fail
def sp_zp_104_2 : LSp := ⟨19, ⟨[(0, .one (.l 39)), (1, .fn 93 []), (7, .one (.i .i64)), (8, .one (.i .i64))], []⟩, [(.ret, ⟨[(4, .one (.i .i64))], []⟩), (.exit 0, ⟨[], []⟩)]⟩
set_option maxRecDepth 100000 in
theorem rq_zp_104_2 (v0 : List (List PV)) (v1 v2 : Int) : runK br Tryz.prog (callK br Tryz.prog X103 M_zp L_zp (lsT []) 40) M_zp (lsT [] 104 0) 40 0 (L_zp 104) (bodyOf Tryz.prog 104 2) (sp_zp_104_2.s.ts sp_zp_104_2.n [.l v0, .i v1, .i v2]) (sp_zp_104_2.s.h [.l v0, .i v1, .i v2]) (idc Tryz.prog 0 (L_zp 104) 2) =
  (rd_zp_104_2 [.l v0, .i v1, .i v2]).go br (fun us' => some (.normal, sp_zp_104_2.s.ts sp_zp_104_2.n us', sp_zp_104_2.s.h us')) sp_zp_104_2.fin := by
 rw [← callF_eq, ← runF_eq]; kernel_rfl
theorem lo_zp_104_2 {R : Type} : LoopTells Tryz.prog X103 M_zp L_zp 0 (L_zp 104) (bodyOf Tryz.prog 104 2) (gL (R := R) sp_zp_104_2 rd_zp_104_2 br) :=
 loopTold (callK_ev (loopsOK_list rids noneIn) 40) (lsokIn (loopsOK_list rids noneIn) 104 0 2) (by kernel_rfl) sp_zp_104_2 rd_zp_104_2 rfl (by kernel_rfl) (by
  intro us v h; unfold rd_zp_104_2 at h; split at h
  ·rename_i v0 v1 v2; exact rq_zp_104_2 v0 v1 v2
  ·cases h)
noncomputable abbrev ll_zp_104_2 {R : Type} : List (Nat × Nat × Nat × Smy R) := (104, 0, 2, gL sp_zp_104_2 rd_zp_104_2 br) :: []
theorem lk_zp_104_2 {R : Type} : ∀ e ∈ ll_zp_104_2 (R := R), LoopTells Tryz.prog X103 M_zp L_zp e.2.1 (L_zp e.1) (bodyOf Tryz.prog e.1 e.2.2.1) e.2.2.2 := List.forall_mem_cons.2 ⟨lo_zp_104_2, noneIn⟩
def S_zp : FSp := ⟨[.one (.l 39)], [], [], [([.one (.b)], [])]⟩
noncomputable def m_zp : List U → Rt
 | [.l v0] =>
  (.test (decide (ln v0 ≤ (40 : Int)))
  (let r0 : Rs := (lres rd_zp_104_2 [U.l v0, U.i (ln v0), U.i (0 : Int)])
  (.test (ok r0 0)
  (.stop 0 [.b (!decide (uI (out r0 0) 0 ≥ (0 : Int)))])
  (.test (ok r0 1)
  (.stop 0 [.b true])
  .fail)))
  (.stop 0 [.b false]))
 | _ => .fail
set_option maxRecDepth 100000 in
theorem q_zp (v0 : List (List PV)) : callK br Tryz.prog X103 M_zp L_zp (lsT ll_zp_104_2) 60 73 (encs [.l v0] 0 S_zp.ap) (encH [.l v0] (ws S_zp.ap) S_zp.ah) (fun y => fixR Tryz.prog S_zp.plan S_zp.ah.length y) =
  (m_zp [.l v0]).go br (fun _ => none) S_zp.fin := by
 rw [← callF_eq]; kernel_rfl
theorem e_zp : EOK Tryz.prog 73 (gF S_zp m_zp) :=
 eokTold mixed named x103 (loopsOK_list rids lk_zp_104_2) 60 S_zp m_zp (by
  intro us v h; unfold m_zp at h; split at h
  ·rename_i v0; exact q_zp v0
  ·cases h) false
noncomputable abbrev X104 : Ext := extT [(73, (gF S_zp m_zp))] X103
theorem x104 : XOK Tryz.prog X104 := xok1 x103 e_zp

/-- levee/bag.May -/
def L_zq : FuncId → Nat → Option (List Nat) := liveT [(55, 2, [0, 5, 6, 7]), (55, 1000002, []), (55, 2000002, [2])]
def M_zq : FuncId → Bool := fun _ => false
noncomputable def rd_zq_55_2 : List U → Rt
 | [.l v0, .l v1, .i v2, .i v3] =>
  (.test (decide (v3 < v2))
  (.test (inR v3 (ln v1))
  (.test (cI (el v1 v3) 1 == (0 : Int))
  (.stop 0 [.b false])
  (let r0 : Rs := (Rt.res (m_zn [U.i (cI (el v1 v3) 1)]))
  (.test (ok r0 0)
  (.test (!uB (out r0 0) 0)
  (.stop 0 [.b false])
  (let r1 : Rs := (Rt.res (m_zp [U.l (cL (el v1 v3) 0)]))
  (.test (ok r1 0)
  (.test (!uB (out r1 0) 0)
  (.stop 0 [.b false])
  (.test (decide (v3 > (0 : Int)))
  (.test (inR (w64 (v3 - (1 : Int))) (ln v0))
  (let r2 : Rs := (Rt.res (m_ze [U.l (cL (el v0 (w64 (v3 - (1 : Int)))) 0), U.l (cL (el v1 v3) 0)]))
  (.test (ok r2 0)
  (.test (decide (uI (out r2 0) 0 ≥ (0 : Int)))
  (.stop 0 [.b false])
  (.next [.l v0, .l v1, .i v2, .i (w64 (v3 + (1 : Int)))]))
  .fail))
  .fail)
  (.next [.l v0, .l v1, .i v2, .i (w64 (v3 + (1 : Int)))])))
  .fail)))
  .fail)))
  .fail)
  (.stop 1 []))
 | _ => .fail
def sp_zq_55_2 : LSp := ⟨44, ⟨[(0, .one (.l 49)), (5, .one (.l 49)), (6, .one (.i .i64)), (7, .one (.i .i64))], []⟩, [(.ret, ⟨[(2, .one (.b))], []⟩), (.exit 0, ⟨[], []⟩)]⟩
set_option maxRecDepth 100000 in
theorem rq_zq_55_2 (v0 v1 : List (List PV)) (v2 v3 : Int) : runK br Tryz.prog (callK br Tryz.prog X104 M_zq L_zq (lsT []) 40) M_zq (lsT [] 55 0) 40 0 (L_zq 55) (bodyOf Tryz.prog 55 2) (sp_zq_55_2.s.ts sp_zq_55_2.n [.l v0, .l v1, .i v2, .i v3]) (sp_zq_55_2.s.h [.l v0, .l v1, .i v2, .i v3]) (idc Tryz.prog 0 (L_zq 55) 2) =
  (rd_zq_55_2 [.l v0, .l v1, .i v2, .i v3]).go br (fun us' => some (.normal, sp_zq_55_2.s.ts sp_zq_55_2.n us', sp_zq_55_2.s.h us')) sp_zq_55_2.fin := by
 rw [← callF_eq, ← runF_eq]; kernel_rfl
theorem lo_zq_55_2 {R : Type} : LoopTells Tryz.prog X104 M_zq L_zq 0 (L_zq 55) (bodyOf Tryz.prog 55 2) (gL (R := R) sp_zq_55_2 rd_zq_55_2 br) :=
 loopTold (callK_ev (loopsOK_list rids noneIn) 40) (lsokIn (loopsOK_list rids noneIn) 55 0 2) (by kernel_rfl) sp_zq_55_2 rd_zq_55_2 rfl (by kernel_rfl) (by
  intro us v h; unfold rd_zq_55_2 at h; split at h
  ·rename_i v0 v1 v2 v3; exact rq_zq_55_2 v0 v1 v2 v3
  ·cases h)
noncomputable abbrev ll_zq_55_2 {R : Type} : List (Nat × Nat × Nat × Smy R) := (55, 0, 2, gL sp_zq_55_2 rd_zq_55_2 br) :: []
theorem lk_zq_55_2 {R : Type} : ∀ e ∈ ll_zq_55_2 (R := R), LoopTells Tryz.prog X104 M_zq L_zq e.2.1 (L_zq e.1) (bodyOf Tryz.prog e.1 e.2.2.1) e.2.2.2 := List.forall_mem_cons.2 ⟨lo_zq_55_2, noneIn⟩
def S_zq : FSp := ⟨[.one (.l 49)], [], [], [([.one (.b)], [])]⟩
noncomputable def m_zq : List U → Rt
 | [.l v0] =>
  (let r0 : Rs := (lres rd_zq_55_2 [U.l v0, U.l v0, U.i (ln v0), U.i (0 : Int)])
  (.test (ok r0 0)
  (.stop 0 [.b (uB (out r0 0) 0)])
  (.test (ok r0 1)
  (.stop 0 [.b true])
  .fail)))
 | _ => .fail
set_option maxRecDepth 100000 in
theorem q_zq (v0 : List (List PV)) : callK br Tryz.prog X104 M_zq L_zq (lsT ll_zq_55_2) 60 55 (encs [.l v0] 0 S_zq.ap) (encH [.l v0] (ws S_zq.ap) S_zq.ah) (fun y => fixR Tryz.prog S_zq.plan S_zq.ah.length y) =
  (m_zq [.l v0]).go br (fun _ => none) S_zq.fin := by
 rw [← callF_eq]; kernel_rfl
theorem e_zq : EOK Tryz.prog 55 (gF S_zq m_zq) :=
 eokTold mixed named x104 (loopsOK_list rids lk_zq_55_2) 60 S_zq m_zq (by
  intro us v h; unfold m_zq at h; split at h
  ·rename_i v0; exact q_zq v0
  ·cases h) false
noncomputable abbrev X105 : Ext := extT [(55, (gF S_zq m_zq))] X104
theorem x105 : XOK Tryz.prog X105 := xok1 x104 e_zq

/-- levee/group.right -/
def L_zr : FuncId → Nat → Option (List Nat) := liveT [(42, 5, [3, 4, 10, 11, 12]), (42, 1000005, [4]), (42, 2000005, [2])]
def M_zr : FuncId → Bool := fun _ => false
noncomputable def rd_zr_42_5 : List U → Rt
 | [.i v0, .b v1, .l v2, .i v3, .i v4] =>
  (.test (decide (v4 < v3))
  (.test (inR v4 (ln v2))
  (.test (decide (cI (el v2 v4) 1 < (0 : Int)))
  (.stop 0 [.i ((1 : Int))])
  (.test v1
  (.next [.i (if false = true then if (100001 : Int) > w64 (v0 + if false = true then if (100001 : Int) > cI (el v2 v4) 1 then (100001 : Int) else cI (el v2 v4) 1 else if (100001 : Int) < cI (el v2 v4) 1 then (100001 : Int) else cI (el v2 v4) 1) then (100001 : Int) else w64 (v0 + if false = true then if (100001 : Int) > cI (el v2 v4) 1 then (100001 : Int) else cI (el v2 v4) 1 else if (100001 : Int) < cI (el v2 v4) 1 then (100001 : Int) else cI (el v2 v4) 1) else if (100001 : Int) < w64 (v0 + if false = true then if (100001 : Int) > cI (el v2 v4) 1 then (100001 : Int) else cI (el v2 v4) 1 else if (100001 : Int) < cI (el v2 v4) 1 then (100001 : Int) else cI (el v2 v4) 1) then (100001 : Int) else w64 (v0 + if false = true then if (100001 : Int) > cI (el v2 v4) 1 then (100001 : Int) else cI (el v2 v4) 1 else if (100001 : Int) < cI (el v2 v4) 1 then (100001 : Int) else cI (el v2 v4) 1)), .b true, .l v2, .i v3, .i (w64 (v4 + (1 : Int)))])
  (.next [.i (if false = true then if (100001 : Int) > w64 (v0 + if false = true then if (100001 : Int) > cI (el v2 v4) 1 then (100001 : Int) else cI (el v2 v4) 1 else if (100001 : Int) < cI (el v2 v4) 1 then (100001 : Int) else cI (el v2 v4) 1) then (100001 : Int) else w64 (v0 + if false = true then if (100001 : Int) > cI (el v2 v4) 1 then (100001 : Int) else cI (el v2 v4) 1 else if (100001 : Int) < cI (el v2 v4) 1 then (100001 : Int) else cI (el v2 v4) 1) else if (100001 : Int) < w64 (v0 + if false = true then if (100001 : Int) > cI (el v2 v4) 1 then (100001 : Int) else cI (el v2 v4) 1 else if (100001 : Int) < cI (el v2 v4) 1 then (100001 : Int) else cI (el v2 v4) 1) then (100001 : Int) else w64 (v0 + if false = true then if (100001 : Int) > cI (el v2 v4) 1 then (100001 : Int) else cI (el v2 v4) 1 else if (100001 : Int) < cI (el v2 v4) 1 then (100001 : Int) else cI (el v2 v4) 1)), .b (decide (w64 (v0 + if false = true then if (100001 : Int) > cI (el v2 v4) 1 then (100001 : Int) else cI (el v2 v4) 1 else if (100001 : Int) < cI (el v2 v4) 1 then (100001 : Int) else cI (el v2 v4) 1) > (100000 : Int))), .l v2, .i v3, .i (w64 (v4 + (1 : Int)))])))
  .fail)
  (.stop 1 [.b v1]))
 | _ => .fail
def sp_zr_42_5 : LSp := ⟨33, ⟨[(3, .one (.i .i64)), (4, .one (.b)), (10, .one (.l 49)), (11, .one (.i .i64)), (12, .one (.i .i64))], []⟩, [(.ret, ⟨[(2, .one (.i .i64))], []⟩), (.exit 0, ⟨[(4, .one (.b))], []⟩)]⟩
set_option maxRecDepth 100000 in
theorem rq_zr_42_5 (v0 : Int) (v1 : Bool) (v2 : List (List PV)) (v3 v4 : Int) : runK br Tryz.prog (callK br Tryz.prog X105 M_zr L_zr (lsT []) 40) M_zr (lsT [] 42 0) 40 0 (L_zr 42) (bodyOf Tryz.prog 42 5) (sp_zr_42_5.s.ts sp_zr_42_5.n [.i v0, .b v1, .l v2, .i v3, .i v4]) (sp_zr_42_5.s.h [.i v0, .b v1, .l v2, .i v3, .i v4]) (idc Tryz.prog 0 (L_zr 42) 5) =
  (rd_zr_42_5 [.i v0, .b v1, .l v2, .i v3, .i v4]).go br (fun us' => some (.normal, sp_zr_42_5.s.ts sp_zr_42_5.n us', sp_zr_42_5.s.h us')) sp_zr_42_5.fin := by
 rw [← callF_eq, ← runF_eq]; kernel_rfl
theorem lo_zr_42_5 {R : Type} : LoopTells Tryz.prog X105 M_zr L_zr 0 (L_zr 42) (bodyOf Tryz.prog 42 5) (gL (R := R) sp_zr_42_5 rd_zr_42_5 br) :=
 loopTold (callK_ev (loopsOK_list rids noneIn) 40) (lsokIn (loopsOK_list rids noneIn) 42 0 5) (by kernel_rfl) sp_zr_42_5 rd_zr_42_5 rfl (by kernel_rfl) (by
  intro us v h; unfold rd_zr_42_5 at h; split at h
  ·rename_i v0 v1 v2 v3 v4; exact rq_zr_42_5 v0 v1 v2 v3 v4
  ·cases h)
noncomputable abbrev ll_zr_42_5 {R : Type} : List (Nat × Nat × Nat × Smy R) := (42, 0, 5, gL sp_zr_42_5 rd_zr_42_5 br) :: []
theorem lk_zr_42_5 {R : Type} : ∀ e ∈ ll_zr_42_5 (R := R), LoopTells Tryz.prog X105 M_zr L_zr e.2.1 (L_zr e.1) (bodyOf Tryz.prog e.1 e.2.2.1) e.2.2.2 := List.forall_mem_cons.2 ⟨lo_zr_42_5, noneIn⟩
def S_zr : FSp := ⟨[.one (.l 49)], [], [], [([.one (.i .i64)], [])]⟩
noncomputable def m_zr : List U → Rt
 | [.l v0] =>
  (let r0 : Rs := (Rt.res (m_zq [U.l v0]))
  (.test (ok r0 0)
  (.test (!uB (out r0 0) 0)
  (.stop 0 [.i ((1 : Int))])
  (let r1 : Rs := (lres rd_zr_42_5 [U.i (0 : Int), U.b false, U.l v0, U.i (ln v0), U.i (0 : Int)])
  (.test (ok r1 0)
  (.stop 0 [.i (uI (out r1 0) 0)])
  (.test (ok r1 1)
  (.test (uB (out r1 1) 0)
  (.stop 0 [.i ((100 : Int))])
  (.stop 0 [.i ((0 : Int))]))
  .fail))))
  .fail))
 | _ => .fail
set_option maxRecDepth 100000 in
theorem q_zr (v0 : List (List PV)) : callK br Tryz.prog X105 M_zr L_zr (lsT ll_zr_42_5) 60 42 (encs [.l v0] 0 S_zr.ap) (encH [.l v0] (ws S_zr.ap) S_zr.ah) (fun y => fixR Tryz.prog S_zr.plan S_zr.ah.length y) =
  (m_zr [.l v0]).go br (fun _ => none) S_zr.fin := by
 rw [← callF_eq]; kernel_rfl
theorem e_zr : EOK Tryz.prog 42 (gF S_zr m_zr) :=
 eokTold mixed named x105 (loopsOK_list rids lk_zr_42_5) 60 S_zr m_zr (by
  intro us v h; unfold m_zr at h; split at h
  ·rename_i v0; exact q_zr v0
  ·cases h) false
noncomputable abbrev X106 : Ext := extT [(42, (gF S_zr m_zr))] X105
theorem x106 : XOK Tryz.prog X106 := xok1 x105 e_zr

/-- levee/group.agg -/
def L_zs : FuncId → Nat → Option (List Nat) := liveT [(47, 3, [2, 4, 6, 13, 14, 15]), (47, 1000003, [4, 6]), (47, 2000003, [4, 5])]
def M_zs : FuncId → Bool := fun _ => false
noncomputable def rd_zs_47_3 : List U → Rt
 | [.l v0, .i v1, .i v2, .i v3, .i v4, .i v5, .i v6, .s v7, .i v8, .i v9, .s v10] =>
  (.test (decide (v2 < v1))
  (.test (inR v2 (ln v0))
  (.test (decide (v4 ≥ (0 : Int)))
  (.test (decide (v4 < ln (cL (el v0 v2) 0)))
  (.test (inR v4 (ln (cL (el v0 v2) 0)))
  (.next [.l v0, .i v1, .i (w64 (v2 + (1 : Int))), .i v3, .i v4, .i v5, .i v6, .s v7, .i ((2 : Int)), .i (w64 (v9 + cI (el v0 v2) 1)), .s v10])
  .fail)
  (.next [.l v0, .i v1, .i (w64 (v2 + (1 : Int))), .i v3, .i v4, .i v5, .i v6, .s v7, .i ((2 : Int)), .i (w64 (v9 + cI (el v0 v2) 1)), .s v10]))
  (.next [.l v0, .i v1, .i (w64 (v2 + (1 : Int))), .i v3, .i v4, .i v5, .i v6, .s v7, .i ((2 : Int)), .i (w64 (v9 + cI (el v0 v2) 1)), .s v10]))
  .fail)
  (.stop 0 [.i v5, .i v6, .s v7, .i v8, .i v9, .s v10]))
 | _ => .fail
def sp_zs_47_3 : LSp := ⟨46, ⟨[(2, .one (.ptr 0 0)), (4, .one (.ptr 1 0)), (6, .iface 125 (.ptr 2 0)), (13, .one (.l 49)), (14, .one (.i .i64)), (15, .one (.i .i64))], [.box 32 [.one (.i .i64), .one (.i .i64)], .box 39 [.one (.i .i64), .one (.i .i64), .one (.s)], .box 129 [.one (.i .i64), .one (.i .i64), .one (.s)]]⟩, [(.exit 0, ⟨[(4, .one (.ptr 0 0)), (6, .iface 125 (.ptr 1 0))], [.box 39 [.one (.i .i64), .one (.i .i64), .one (.s)], .box 129 [.one (.i .i64), .one (.i .i64), .one (.s)]]⟩)]⟩
set_option maxRecDepth 100000 in
theorem rq_zs_47_3 (v0 : List (List PV)) (v1 v2 v3 v4 v5 v6 : Int) (v7 : ByteArray) (v8 v9 : Int) (v10 : ByteArray) : runK br Tryz.prog (callK br Tryz.prog X106 M_zs L_zs (lsT []) 40) M_zs (lsT [] 47 0) 40 0 (L_zs 47) (bodyOf Tryz.prog 47 3) (sp_zs_47_3.s.ts sp_zs_47_3.n [.l v0, .i v1, .i v2, .i v3, .i v4, .i v5, .i v6, .s v7, .i v8, .i v9, .s v10]) (sp_zs_47_3.s.h [.l v0, .i v1, .i v2, .i v3, .i v4, .i v5, .i v6, .s v7, .i v8, .i v9, .s v10]) (idc Tryz.prog 0 (L_zs 47) 3) =
  (rd_zs_47_3 [.l v0, .i v1, .i v2, .i v3, .i v4, .i v5, .i v6, .s v7, .i v8, .i v9, .s v10]).go br (fun us' => some (.normal, sp_zs_47_3.s.ts sp_zs_47_3.n us', sp_zs_47_3.s.h us')) sp_zs_47_3.fin := by
 rw [← callF_eq, ← runF_eq]; kernel_rfl
theorem lo_zs_47_3 {R : Type} : LoopTells Tryz.prog X106 M_zs L_zs 0 (L_zs 47) (bodyOf Tryz.prog 47 3) (gL (R := R) sp_zs_47_3 rd_zs_47_3 br) :=
 loopTold (callK_ev (loopsOK_list rids noneIn) 40) (lsokIn (loopsOK_list rids noneIn) 47 0 3) (by kernel_rfl) sp_zs_47_3 rd_zs_47_3 rfl (by kernel_rfl) (by
  intro us v h; unfold rd_zs_47_3 at h; split at h
  ·rename_i v0 v1 v2 v3 v4 v5 v6 v7 v8 v9 v10; exact rq_zs_47_3 v0 v1 v2 v3 v4 v5 v6 v7 v8 v9 v10
  ·cases h)
noncomputable abbrev ll_zs_47_3 {R : Type} : List (Nat × Nat × Nat × Smy R) := (47, 0, 3, gL sp_zs_47_3 rd_zs_47_3 br) :: []
theorem lk_zs_47_3 {R : Type} : ∀ e ∈ ll_zs_47_3 (R := R), LoopTells Tryz.prog X106 M_zs L_zs e.2.1 (L_zs e.1) (bodyOf Tryz.prog e.1 e.2.2.1) e.2.2.2 := List.forall_mem_cons.2 ⟨lo_zs_47_3, noneIn⟩
noncomputable def rd_zs_47_3_8 : List U → Rt
 | [.l v0, .i v1, .i v2, .i v3, .i v4, .i v5, .i v6, .s v7, .i v8, .i v9, .b v10] =>
  (.test (decide (v2 < v1))
  (.test (inR v2 (ln v0))
  (.test (decide (v4 ≥ (0 : Int)))
  (.test (decide (v4 < ln (cL (el v0 v2) 0)))
  (.test (inR v4 (ln (cL (el v0 v2) 0)))
  (.test (cI (el (cL (el v0 v2) 0) v4) 0 != (2 : Int))
  (.next [.l v0, .i v1, .i (w64 (v2 + (1 : Int))), .i v3, .i v4, .i v5, .i v6, .s v7, .i v8, .i v9, .b v10])
  (.test v10
  (.test (decide (cI (el (cL (el v0 v2) 0) v4) 1 < (0 : Int)))
  (.test (inU64 (IntKind.wrap IntKind.u64 ((0 : Int) - IntKind.wrap IntKind.u64 (cI (el (cL (el v0 v2) 0) v4) 1))) && inU64 (IntKind.wrap IntKind.u64 (cI (el v0 v2) 1)))
  (.test (decide (cI (el (cL (el v0 v2) 0) v4) 1 < (0 : Int)))
  (.test (externIn v9 (mulLo (IntKind.wrap IntKind.u64 ((0 : Int) - IntKind.wrap IntKind.u64 (cI (el (cL (el v0 v2) 0) v4) 1))) (IntKind.wrap IntKind.u64 (cI (el v0 v2) 1))) (0 : Int))
  (.test (externIn v8 (mulHi (IntKind.wrap IntKind.u64 ((0 : Int) - IntKind.wrap IntKind.u64 (cI (el (cL (el v0 v2) 0) v4) 1))) (IntKind.wrap IntKind.u64 (cI (el v0 v2) 1))) (subHi v9 (mulLo (IntKind.wrap IntKind.u64 ((0 : Int) - IntKind.wrap IntKind.u64 (cI (el (cL (el v0 v2) 0) v4) 1))) (IntKind.wrap IntKind.u64 (cI (el v0 v2) 1))) (0 : Int)))
  (.next [.l v0, .i v1, .i (w64 (v2 + (1 : Int))), .i v3, .i v4, .i v5, .i v6, .s v7, .i (subLo v8 (mulHi (IntKind.wrap IntKind.u64 ((0 : Int) - IntKind.wrap IntKind.u64 (cI (el (cL (el v0 v2) 0) v4) 1))) (IntKind.wrap IntKind.u64 (cI (el v0 v2) 1))) (subHi v9 (mulLo (IntKind.wrap IntKind.u64 ((0 : Int) - IntKind.wrap IntKind.u64 (cI (el (cL (el v0 v2) 0) v4) 1))) (IntKind.wrap IntKind.u64 (cI (el v0 v2) 1))) (0 : Int))), .i (subLo v9 (mulLo (IntKind.wrap IntKind.u64 ((0 : Int) - IntKind.wrap IntKind.u64 (cI (el (cL (el v0 v2) 0) v4) 1))) (IntKind.wrap IntKind.u64 (cI (el v0 v2) 1))) (0 : Int)), .b true])
  .fail)
  .fail)
  (.test (externIn v9 (mulLo (IntKind.wrap IntKind.u64 ((0 : Int) - IntKind.wrap IntKind.u64 (cI (el (cL (el v0 v2) 0) v4) 1))) (IntKind.wrap IntKind.u64 (cI (el v0 v2) 1))) (0 : Int))
  (.test (externIn v8 (mulHi (IntKind.wrap IntKind.u64 ((0 : Int) - IntKind.wrap IntKind.u64 (cI (el (cL (el v0 v2) 0) v4) 1))) (IntKind.wrap IntKind.u64 (cI (el v0 v2) 1))) (addHi v9 (mulLo (IntKind.wrap IntKind.u64 ((0 : Int) - IntKind.wrap IntKind.u64 (cI (el (cL (el v0 v2) 0) v4) 1))) (IntKind.wrap IntKind.u64 (cI (el v0 v2) 1))) (0 : Int)))
  (.next [.l v0, .i v1, .i (w64 (v2 + (1 : Int))), .i v3, .i v4, .i v5, .i v6, .s v7, .i (addLo v8 (mulHi (IntKind.wrap IntKind.u64 ((0 : Int) - IntKind.wrap IntKind.u64 (cI (el (cL (el v0 v2) 0) v4) 1))) (IntKind.wrap IntKind.u64 (cI (el v0 v2) 1))) (addHi v9 (mulLo (IntKind.wrap IntKind.u64 ((0 : Int) - IntKind.wrap IntKind.u64 (cI (el (cL (el v0 v2) 0) v4) 1))) (IntKind.wrap IntKind.u64 (cI (el v0 v2) 1))) (0 : Int))), .i (addLo v9 (mulLo (IntKind.wrap IntKind.u64 ((0 : Int) - IntKind.wrap IntKind.u64 (cI (el (cL (el v0 v2) 0) v4) 1))) (IntKind.wrap IntKind.u64 (cI (el v0 v2) 1))) (0 : Int)), .b true])
  .fail)
  .fail))
  .fail)
  (.test (inU64 (IntKind.wrap IntKind.u64 (cI (el (cL (el v0 v2) 0) v4) 1)) && inU64 (IntKind.wrap IntKind.u64 (cI (el v0 v2) 1)))
  (.test (decide (cI (el (cL (el v0 v2) 0) v4) 1 < (0 : Int)))
  (.test (externIn v9 (mulLo (IntKind.wrap IntKind.u64 (cI (el (cL (el v0 v2) 0) v4) 1)) (IntKind.wrap IntKind.u64 (cI (el v0 v2) 1))) (0 : Int))
  (.test (externIn v8 (mulHi (IntKind.wrap IntKind.u64 (cI (el (cL (el v0 v2) 0) v4) 1)) (IntKind.wrap IntKind.u64 (cI (el v0 v2) 1))) (subHi v9 (mulLo (IntKind.wrap IntKind.u64 (cI (el (cL (el v0 v2) 0) v4) 1)) (IntKind.wrap IntKind.u64 (cI (el v0 v2) 1))) (0 : Int)))
  (.next [.l v0, .i v1, .i (w64 (v2 + (1 : Int))), .i v3, .i v4, .i v5, .i v6, .s v7, .i (subLo v8 (mulHi (IntKind.wrap IntKind.u64 (cI (el (cL (el v0 v2) 0) v4) 1)) (IntKind.wrap IntKind.u64 (cI (el v0 v2) 1))) (subHi v9 (mulLo (IntKind.wrap IntKind.u64 (cI (el (cL (el v0 v2) 0) v4) 1)) (IntKind.wrap IntKind.u64 (cI (el v0 v2) 1))) (0 : Int))), .i (subLo v9 (mulLo (IntKind.wrap IntKind.u64 (cI (el (cL (el v0 v2) 0) v4) 1)) (IntKind.wrap IntKind.u64 (cI (el v0 v2) 1))) (0 : Int)), .b true])
  .fail)
  .fail)
  (.test (externIn v9 (mulLo (IntKind.wrap IntKind.u64 (cI (el (cL (el v0 v2) 0) v4) 1)) (IntKind.wrap IntKind.u64 (cI (el v0 v2) 1))) (0 : Int))
  (.test (externIn v8 (mulHi (IntKind.wrap IntKind.u64 (cI (el (cL (el v0 v2) 0) v4) 1)) (IntKind.wrap IntKind.u64 (cI (el v0 v2) 1))) (addHi v9 (mulLo (IntKind.wrap IntKind.u64 (cI (el (cL (el v0 v2) 0) v4) 1)) (IntKind.wrap IntKind.u64 (cI (el v0 v2) 1))) (0 : Int)))
  (.next [.l v0, .i v1, .i (w64 (v2 + (1 : Int))), .i v3, .i v4, .i v5, .i v6, .s v7, .i (addLo v8 (mulHi (IntKind.wrap IntKind.u64 (cI (el (cL (el v0 v2) 0) v4) 1)) (IntKind.wrap IntKind.u64 (cI (el v0 v2) 1))) (addHi v9 (mulLo (IntKind.wrap IntKind.u64 (cI (el (cL (el v0 v2) 0) v4) 1)) (IntKind.wrap IntKind.u64 (cI (el v0 v2) 1))) (0 : Int))), .i (addLo v9 (mulLo (IntKind.wrap IntKind.u64 (cI (el (cL (el v0 v2) 0) v4) 1)) (IntKind.wrap IntKind.u64 (cI (el v0 v2) 1))) (0 : Int)), .b true])
  .fail)
  .fail))
  .fail))
  (.test (decide (cI (el (cL (el v0 v2) 0) v4) 1 < (0 : Int)))
  (.test (inU64 (IntKind.wrap IntKind.u64 ((0 : Int) - IntKind.wrap IntKind.u64 (cI (el (cL (el v0 v2) 0) v4) 1))) && inU64 (IntKind.wrap IntKind.u64 (cI (el v0 v2) 1)))
  (.test (decide (cI (el (cL (el v0 v2) 0) v4) 1 < (0 : Int)))
  (.test (externIn v9 (mulLo (IntKind.wrap IntKind.u64 ((0 : Int) - IntKind.wrap IntKind.u64 (cI (el (cL (el v0 v2) 0) v4) 1))) (IntKind.wrap IntKind.u64 (cI (el v0 v2) 1))) (0 : Int))
  (.test (externIn v8 (mulHi (IntKind.wrap IntKind.u64 ((0 : Int) - IntKind.wrap IntKind.u64 (cI (el (cL (el v0 v2) 0) v4) 1))) (IntKind.wrap IntKind.u64 (cI (el v0 v2) 1))) (subHi v9 (mulLo (IntKind.wrap IntKind.u64 ((0 : Int) - IntKind.wrap IntKind.u64 (cI (el (cL (el v0 v2) 0) v4) 1))) (IntKind.wrap IntKind.u64 (cI (el v0 v2) 1))) (0 : Int)))
  (.next [.l v0, .i v1, .i (w64 (v2 + (1 : Int))), .i v3, .i v4, .i v5, .i v6, .s v7, .i (subLo v8 (mulHi (IntKind.wrap IntKind.u64 ((0 : Int) - IntKind.wrap IntKind.u64 (cI (el (cL (el v0 v2) 0) v4) 1))) (IntKind.wrap IntKind.u64 (cI (el v0 v2) 1))) (subHi v9 (mulLo (IntKind.wrap IntKind.u64 ((0 : Int) - IntKind.wrap IntKind.u64 (cI (el (cL (el v0 v2) 0) v4) 1))) (IntKind.wrap IntKind.u64 (cI (el v0 v2) 1))) (0 : Int))), .i (subLo v9 (mulLo (IntKind.wrap IntKind.u64 ((0 : Int) - IntKind.wrap IntKind.u64 (cI (el (cL (el v0 v2) 0) v4) 1))) (IntKind.wrap IntKind.u64 (cI (el v0 v2) 1))) (0 : Int)), .b (decide (cI (el v0 v2) 1 > (0 : Int)))])
  .fail)
  .fail)
  (.test (externIn v9 (mulLo (IntKind.wrap IntKind.u64 ((0 : Int) - IntKind.wrap IntKind.u64 (cI (el (cL (el v0 v2) 0) v4) 1))) (IntKind.wrap IntKind.u64 (cI (el v0 v2) 1))) (0 : Int))
  (.test (externIn v8 (mulHi (IntKind.wrap IntKind.u64 ((0 : Int) - IntKind.wrap IntKind.u64 (cI (el (cL (el v0 v2) 0) v4) 1))) (IntKind.wrap IntKind.u64 (cI (el v0 v2) 1))) (addHi v9 (mulLo (IntKind.wrap IntKind.u64 ((0 : Int) - IntKind.wrap IntKind.u64 (cI (el (cL (el v0 v2) 0) v4) 1))) (IntKind.wrap IntKind.u64 (cI (el v0 v2) 1))) (0 : Int)))
  (.next [.l v0, .i v1, .i (w64 (v2 + (1 : Int))), .i v3, .i v4, .i v5, .i v6, .s v7, .i (addLo v8 (mulHi (IntKind.wrap IntKind.u64 ((0 : Int) - IntKind.wrap IntKind.u64 (cI (el (cL (el v0 v2) 0) v4) 1))) (IntKind.wrap IntKind.u64 (cI (el v0 v2) 1))) (addHi v9 (mulLo (IntKind.wrap IntKind.u64 ((0 : Int) - IntKind.wrap IntKind.u64 (cI (el (cL (el v0 v2) 0) v4) 1))) (IntKind.wrap IntKind.u64 (cI (el v0 v2) 1))) (0 : Int))), .i (addLo v9 (mulLo (IntKind.wrap IntKind.u64 ((0 : Int) - IntKind.wrap IntKind.u64 (cI (el (cL (el v0 v2) 0) v4) 1))) (IntKind.wrap IntKind.u64 (cI (el v0 v2) 1))) (0 : Int)), .b (decide (cI (el v0 v2) 1 > (0 : Int)))])
  .fail)
  .fail))
  .fail)
  (.test (inU64 (IntKind.wrap IntKind.u64 (cI (el (cL (el v0 v2) 0) v4) 1)) && inU64 (IntKind.wrap IntKind.u64 (cI (el v0 v2) 1)))
  (.test (decide (cI (el (cL (el v0 v2) 0) v4) 1 < (0 : Int)))
  (.test (externIn v9 (mulLo (IntKind.wrap IntKind.u64 (cI (el (cL (el v0 v2) 0) v4) 1)) (IntKind.wrap IntKind.u64 (cI (el v0 v2) 1))) (0 : Int))
  (.test (externIn v8 (mulHi (IntKind.wrap IntKind.u64 (cI (el (cL (el v0 v2) 0) v4) 1)) (IntKind.wrap IntKind.u64 (cI (el v0 v2) 1))) (subHi v9 (mulLo (IntKind.wrap IntKind.u64 (cI (el (cL (el v0 v2) 0) v4) 1)) (IntKind.wrap IntKind.u64 (cI (el v0 v2) 1))) (0 : Int)))
  (.next [.l v0, .i v1, .i (w64 (v2 + (1 : Int))), .i v3, .i v4, .i v5, .i v6, .s v7, .i (subLo v8 (mulHi (IntKind.wrap IntKind.u64 (cI (el (cL (el v0 v2) 0) v4) 1)) (IntKind.wrap IntKind.u64 (cI (el v0 v2) 1))) (subHi v9 (mulLo (IntKind.wrap IntKind.u64 (cI (el (cL (el v0 v2) 0) v4) 1)) (IntKind.wrap IntKind.u64 (cI (el v0 v2) 1))) (0 : Int))), .i (subLo v9 (mulLo (IntKind.wrap IntKind.u64 (cI (el (cL (el v0 v2) 0) v4) 1)) (IntKind.wrap IntKind.u64 (cI (el v0 v2) 1))) (0 : Int)), .b (decide (cI (el v0 v2) 1 > (0 : Int)))])
  .fail)
  .fail)
  (.test (externIn v9 (mulLo (IntKind.wrap IntKind.u64 (cI (el (cL (el v0 v2) 0) v4) 1)) (IntKind.wrap IntKind.u64 (cI (el v0 v2) 1))) (0 : Int))
  (.test (externIn v8 (mulHi (IntKind.wrap IntKind.u64 (cI (el (cL (el v0 v2) 0) v4) 1)) (IntKind.wrap IntKind.u64 (cI (el v0 v2) 1))) (addHi v9 (mulLo (IntKind.wrap IntKind.u64 (cI (el (cL (el v0 v2) 0) v4) 1)) (IntKind.wrap IntKind.u64 (cI (el v0 v2) 1))) (0 : Int)))
  (.next [.l v0, .i v1, .i (w64 (v2 + (1 : Int))), .i v3, .i v4, .i v5, .i v6, .s v7, .i (addLo v8 (mulHi (IntKind.wrap IntKind.u64 (cI (el (cL (el v0 v2) 0) v4) 1)) (IntKind.wrap IntKind.u64 (cI (el v0 v2) 1))) (addHi v9 (mulLo (IntKind.wrap IntKind.u64 (cI (el (cL (el v0 v2) 0) v4) 1)) (IntKind.wrap IntKind.u64 (cI (el v0 v2) 1))) (0 : Int))), .i (addLo v9 (mulLo (IntKind.wrap IntKind.u64 (cI (el (cL (el v0 v2) 0) v4) 1)) (IntKind.wrap IntKind.u64 (cI (el v0 v2) 1))) (0 : Int)), .b (decide (cI (el v0 v2) 1 > (0 : Int)))])
  .fail)
  .fail))
  .fail))))
  .fail)
  (.next [.l v0, .i v1, .i (w64 (v2 + (1 : Int))), .i v3, .i v4, .i v5, .i v6, .s v7, .i v8, .i v9, .b v10]))
  (.next [.l v0, .i v1, .i (w64 (v2 + (1 : Int))), .i v3, .i v4, .i v5, .i v6, .s v7, .i v8, .i v9, .b v10]))
  .fail)
  (.stop 0 [.i v5, .i v6, .s v7, .i v8, .i v9, .b v10]))
 | _ => .fail
def sp_zs_47_3_8 : LSp := ⟨46, ⟨[(2, .one (.ptr 0 0)), (4, .one (.ptr 1 0)), (6, .iface 130 (.ptr 2 0)), (13, .one (.l 49)), (14, .one (.i .i64)), (15, .one (.i .i64))], [.box 32 [.one (.i .i64), .one (.i .i64)], .box 39 [.one (.i .i64), .one (.i .i64), .one (.s)], .box 132 [.one (.i .u64), .one (.i .u64), .one (.b)]]⟩, [(.exit 0, ⟨[(4, .one (.ptr 0 0)), (6, .iface 130 (.ptr 1 0))], [.box 39 [.one (.i .i64), .one (.i .i64), .one (.s)], .box 132 [.one (.i .u64), .one (.i .u64), .one (.b)]]⟩)]⟩
set_option maxRecDepth 100000 in
theorem rq_zs_47_3_8 (v0 : List (List PV)) (v1 v2 v3 v4 v5 v6 : Int) (v7 : ByteArray) (v8 v9 : Int) (v10 : Bool) : runK br Tryz.prog (callK br Tryz.prog X106 M_zs L_zs (lsT ll_zs_47_3) 40) M_zs (lsT ll_zs_47_3 47 0) 40 0 (L_zs 47) (bodyOf Tryz.prog 47 3) (sp_zs_47_3_8.s.ts sp_zs_47_3_8.n [.l v0, .i v1, .i v2, .i v3, .i v4, .i v5, .i v6, .s v7, .i v8, .i v9, .b v10]) (sp_zs_47_3_8.s.h [.l v0, .i v1, .i v2, .i v3, .i v4, .i v5, .i v6, .s v7, .i v8, .i v9, .b v10]) (idc Tryz.prog 0 (L_zs 47) 3) =
  (rd_zs_47_3_8 [.l v0, .i v1, .i v2, .i v3, .i v4, .i v5, .i v6, .s v7, .i v8, .i v9, .b v10]).go br (fun us' => some (.normal, sp_zs_47_3_8.s.ts sp_zs_47_3_8.n us', sp_zs_47_3_8.s.h us')) sp_zs_47_3_8.fin := by
 rw [← callF_eq, ← runF_eq]; kernel_rfl
theorem lp_zs_47_3_8 {R : Type} : LoopTells Tryz.prog X106 M_zs L_zs 0 (L_zs 47) (bodyOf Tryz.prog 47 3) (gL (R := R) sp_zs_47_3_8 rd_zs_47_3_8 br) :=
 loopTold (callK_ev (loopsOK_list rids lk_zs_47_3) 40) (lsokIn (loopsOK_list rids lk_zs_47_3) 47 0 3) (by kernel_rfl) sp_zs_47_3_8 rd_zs_47_3_8 rfl (by kernel_rfl) (by
  intro us v h; unfold rd_zs_47_3_8 at h; split at h
  ·rename_i v0 v1 v2 v3 v4 v5 v6 v7 v8 v9 v10; exact rq_zs_47_3_8 v0 v1 v2 v3 v4 v5 v6 v7 v8 v9 v10
  ·cases h)
theorem lo_zs_47_3_8 {R : Type} : LoopTells Tryz.prog X106 M_zs L_zs 0 (L_zs 47) (bodyOf Tryz.prog 47 3) (gL2 sp_zs_47_3_8 rd_zs_47_3_8 br (gL sp_zs_47_3 rd_zs_47_3 br) : Smy R) := loopTells2 lp_zs_47_3_8 lo_zs_47_3
noncomputable abbrev ll_zs_47_3_8 {R : Type} : List (Nat × Nat × Nat × Smy R) := (47, 0, 3, gL2 sp_zs_47_3_8 rd_zs_47_3_8 br (gL sp_zs_47_3 rd_zs_47_3 br)) :: ll_zs_47_3
theorem lk_zs_47_3_8 {R : Type} : ∀ e ∈ ll_zs_47_3_8 (R := R), LoopTells Tryz.prog X106 M_zs L_zs e.2.1 (L_zs e.1) (bodyOf Tryz.prog e.1 e.2.2.1) e.2.2.2 := List.forall_mem_cons.2 ⟨lo_zs_47_3_8, lk_zs_47_3⟩
noncomputable def rd_zs_47_3_9 : List U → Rt
 | [.l v0, .i v1, .i v2, .i v3, .i v4, .i v5, .i v6, .s v7, .i v8, .i v9, .s v10, .i v11] =>
  (.test (decide (v2 < v1))
  (.test (inR v2 (ln v0))
  (.test (decide (v4 ≥ (0 : Int)))
  (.test (decide (v4 < ln (cL (el v0 v2) 0)))
  (.test (inR v4 (ln (cL (el v0 v2) 0)))
  (.test (cI (el (cL (el v0 v2) 0) v4) 0 != (0 : Int))
  (.test (decide (cI (el v0 v2) 1 > (0 : Int)))
  (.test (v8 == (0 : Int))
  (.next [.l v0, .i v1, .i (w64 (v2 + (1 : Int))), .i v3, .i v4, .i v5, .i v6, .s v7, .i (cI (el (cL (el v0 v2) 0) v4) 0), .i (cI (el (cL (el v0 v2) 0) v4) 1), .s (cS (el (cL (el v0 v2) 0) v4) 2), .i v11])
  (let r0 : Rs := (Rt.res (m_zc [U.i (cI (el (cL (el v0 v2) 0) v4) 0), U.i (cI (el (cL (el v0 v2) 0) v4) 1), U.s (cS (el (cL (el v0 v2) 0) v4) 2), U.i v8, U.i v9, U.s v10]))
  (.test (ok r0 0)
  (.test (decide (w64 (v11 * uI (out r0 0) 0) < (0 : Int)))
  (.next [.l v0, .i v1, .i (w64 (v2 + (1 : Int))), .i v3, .i v4, .i v5, .i v6, .s v7, .i (cI (el (cL (el v0 v2) 0) v4) 0), .i (cI (el (cL (el v0 v2) 0) v4) 1), .s (cS (el (cL (el v0 v2) 0) v4) 2), .i v11])
  (.next [.l v0, .i v1, .i (w64 (v2 + (1 : Int))), .i v3, .i v4, .i v5, .i v6, .s v7, .i v8, .i v9, .s v10, .i v11]))
  .fail)))
  (.next [.l v0, .i v1, .i (w64 (v2 + (1 : Int))), .i v3, .i v4, .i v5, .i v6, .s v7, .i v8, .i v9, .s v10, .i v11]))
  (.next [.l v0, .i v1, .i (w64 (v2 + (1 : Int))), .i v3, .i v4, .i v5, .i v6, .s v7, .i v8, .i v9, .s v10, .i v11]))
  .fail)
  (.next [.l v0, .i v1, .i (w64 (v2 + (1 : Int))), .i v3, .i v4, .i v5, .i v6, .s v7, .i v8, .i v9, .s v10, .i v11]))
  (.next [.l v0, .i v1, .i (w64 (v2 + (1 : Int))), .i v3, .i v4, .i v5, .i v6, .s v7, .i v8, .i v9, .s v10, .i v11]))
  .fail)
  (.stop 0 [.i v5, .i v6, .s v7, .i v8, .i v9, .s v10, .i v11]))
 | _ => .fail
def sp_zs_47_3_9 : LSp := ⟨46, ⟨[(2, .one (.ptr 0 0)), (4, .one (.ptr 1 0)), (6, .iface 133 (.ptr 2 0)), (13, .one (.l 49)), (14, .one (.i .i64)), (15, .one (.i .i64))], [.box 32 [.one (.i .i64), .one (.i .i64)], .box 39 [.one (.i .i64), .one (.i .i64), .one (.s)], .box 135 [.one (.i .i64), .one (.i .i64), .one (.s), .one (.i .i64)]]⟩, [(.exit 0, ⟨[(4, .one (.ptr 0 0)), (6, .iface 133 (.ptr 1 0))], [.box 39 [.one (.i .i64), .one (.i .i64), .one (.s)], .box 135 [.one (.i .i64), .one (.i .i64), .one (.s), .one (.i .i64)]]⟩)]⟩
set_option maxRecDepth 100000 in
theorem rq_zs_47_3_9 (v0 : List (List PV)) (v1 v2 v3 v4 v5 v6 : Int) (v7 : ByteArray) (v8 v9 : Int) (v10 : ByteArray) (v11 : Int) : runK br Tryz.prog (callK br Tryz.prog X106 M_zs L_zs (lsT ll_zs_47_3_8) 40) M_zs (lsT ll_zs_47_3_8 47 0) 40 0 (L_zs 47) (bodyOf Tryz.prog 47 3) (sp_zs_47_3_9.s.ts sp_zs_47_3_9.n [.l v0, .i v1, .i v2, .i v3, .i v4, .i v5, .i v6, .s v7, .i v8, .i v9, .s v10, .i v11]) (sp_zs_47_3_9.s.h [.l v0, .i v1, .i v2, .i v3, .i v4, .i v5, .i v6, .s v7, .i v8, .i v9, .s v10, .i v11]) (idc Tryz.prog 0 (L_zs 47) 3) =
  (rd_zs_47_3_9 [.l v0, .i v1, .i v2, .i v3, .i v4, .i v5, .i v6, .s v7, .i v8, .i v9, .s v10, .i v11]).go br (fun us' => some (.normal, sp_zs_47_3_9.s.ts sp_zs_47_3_9.n us', sp_zs_47_3_9.s.h us')) sp_zs_47_3_9.fin := by
 rw [← callF_eq, ← runF_eq]; kernel_rfl
theorem lp_zs_47_3_9 {R : Type} : LoopTells Tryz.prog X106 M_zs L_zs 0 (L_zs 47) (bodyOf Tryz.prog 47 3) (gL (R := R) sp_zs_47_3_9 rd_zs_47_3_9 br) :=
 loopTold (callK_ev (loopsOK_list rids lk_zs_47_3_8) 40) (lsokIn (loopsOK_list rids lk_zs_47_3_8) 47 0 3) (by kernel_rfl) sp_zs_47_3_9 rd_zs_47_3_9 rfl (by kernel_rfl) (by
  intro us v h; unfold rd_zs_47_3_9 at h; split at h
  ·rename_i v0 v1 v2 v3 v4 v5 v6 v7 v8 v9 v10 v11; exact rq_zs_47_3_9 v0 v1 v2 v3 v4 v5 v6 v7 v8 v9 v10 v11
  ·cases h)
theorem lo_zs_47_3_9 {R : Type} : LoopTells Tryz.prog X106 M_zs L_zs 0 (L_zs 47) (bodyOf Tryz.prog 47 3) (gL2 sp_zs_47_3_9 rd_zs_47_3_9 br (gL2 sp_zs_47_3_8 rd_zs_47_3_8 br (gL sp_zs_47_3 rd_zs_47_3 br)) : Smy R) := loopTells2 lp_zs_47_3_9 lo_zs_47_3_8
noncomputable abbrev ll_zs_47_3_9 {R : Type} : List (Nat × Nat × Nat × Smy R) := (47, 0, 3, gL2 sp_zs_47_3_9 rd_zs_47_3_9 br (gL2 sp_zs_47_3_8 rd_zs_47_3_8 br (gL sp_zs_47_3 rd_zs_47_3 br))) :: ll_zs_47_3_8
theorem lk_zs_47_3_9 {R : Type} : ∀ e ∈ ll_zs_47_3_9 (R := R), LoopTells Tryz.prog X106 M_zs L_zs e.2.1 (L_zs e.1) (bodyOf Tryz.prog e.1 e.2.2.1) e.2.2.2 := List.forall_mem_cons.2 ⟨lo_zs_47_3_9, lk_zs_47_3_8⟩
noncomputable def rd_zs_47_3_10 : List U → Rt
 | [.l v0, .i v1, .i v2, .i v3, .i v4, .i v5, .i v6, .s v7, .i v8, .i v9, .s v10] =>
  (.test (decide (v2 < v1))
  (.test (inR v2 (ln v0))
  (.test (decide (v4 ≥ (0 : Int)))
  (.test (decide (v4 < ln (cL (el v0 v2) 0)))
  (.test (inR v4 (ln (cL (el v0 v2) 0)))
  (.next [.l v0, .i v1, .i (w64 (v2 + (1 : Int))), .i v3, .i v4, .i v5, .i v6, .s v7, .i v8, .i v9, .s v10])
  .fail)
  (.next [.l v0, .i v1, .i (w64 (v2 + (1 : Int))), .i v3, .i v4, .i v5, .i v6, .s v7, .i v8, .i v9, .s v10]))
  (.next [.l v0, .i v1, .i (w64 (v2 + (1 : Int))), .i v3, .i v4, .i v5, .i v6, .s v7, .i v8, .i v9, .s v10]))
  .fail)
  (.stop 0 [.i v5, .i v6, .s v7, .i v8, .i v9, .s v10]))
 | _ => .fail
def sp_zs_47_3_10 : LSp := ⟨46, ⟨[(2, .one (.ptr 0 0)), (4, .one (.ptr 1 0)), (6, .iface 136 (.ptr 2 0)), (13, .one (.l 49)), (14, .one (.i .i64)), (15, .one (.i .i64))], [.box 32 [.one (.i .i64), .one (.i .i64)], .box 39 [.one (.i .i64), .one (.i .i64), .one (.s)], .box 127 [.one (.i .i64), .one (.i .i64), .one (.s)]]⟩, [(.exit 0, ⟨[(4, .one (.ptr 0 0)), (6, .iface 136 (.ptr 1 0))], [.box 39 [.one (.i .i64), .one (.i .i64), .one (.s)], .box 127 [.one (.i .i64), .one (.i .i64), .one (.s)]]⟩)]⟩
set_option maxRecDepth 100000 in
theorem rq_zs_47_3_10 (v0 : List (List PV)) (v1 v2 v3 v4 v5 v6 : Int) (v7 : ByteArray) (v8 v9 : Int) (v10 : ByteArray) : runK br Tryz.prog (callK br Tryz.prog X106 M_zs L_zs (lsT ll_zs_47_3_9) 40) M_zs (lsT ll_zs_47_3_9 47 0) 40 0 (L_zs 47) (bodyOf Tryz.prog 47 3) (sp_zs_47_3_10.s.ts sp_zs_47_3_10.n [.l v0, .i v1, .i v2, .i v3, .i v4, .i v5, .i v6, .s v7, .i v8, .i v9, .s v10]) (sp_zs_47_3_10.s.h [.l v0, .i v1, .i v2, .i v3, .i v4, .i v5, .i v6, .s v7, .i v8, .i v9, .s v10]) (idc Tryz.prog 0 (L_zs 47) 3) =
  (rd_zs_47_3_10 [.l v0, .i v1, .i v2, .i v3, .i v4, .i v5, .i v6, .s v7, .i v8, .i v9, .s v10]).go br (fun us' => some (.normal, sp_zs_47_3_10.s.ts sp_zs_47_3_10.n us', sp_zs_47_3_10.s.h us')) sp_zs_47_3_10.fin := by
 rw [← callF_eq, ← runF_eq]; kernel_rfl
theorem lp_zs_47_3_10 {R : Type} : LoopTells Tryz.prog X106 M_zs L_zs 0 (L_zs 47) (bodyOf Tryz.prog 47 3) (gL (R := R) sp_zs_47_3_10 rd_zs_47_3_10 br) :=
 loopTold (callK_ev (loopsOK_list rids lk_zs_47_3_9) 40) (lsokIn (loopsOK_list rids lk_zs_47_3_9) 47 0 3) (by kernel_rfl) sp_zs_47_3_10 rd_zs_47_3_10 rfl (by kernel_rfl) (by
  intro us v h; unfold rd_zs_47_3_10 at h; split at h
  ·rename_i v0 v1 v2 v3 v4 v5 v6 v7 v8 v9 v10; exact rq_zs_47_3_10 v0 v1 v2 v3 v4 v5 v6 v7 v8 v9 v10
  ·cases h)
theorem lo_zs_47_3_10 {R : Type} : LoopTells Tryz.prog X106 M_zs L_zs 0 (L_zs 47) (bodyOf Tryz.prog 47 3) (gL2 sp_zs_47_3_10 rd_zs_47_3_10 br (gL2 sp_zs_47_3_9 rd_zs_47_3_9 br (gL2 sp_zs_47_3_8 rd_zs_47_3_8 br (gL sp_zs_47_3 rd_zs_47_3 br))) : Smy R) := loopTells2 lp_zs_47_3_10 lo_zs_47_3_9
noncomputable abbrev ll_zs_47_3_10 {R : Type} : List (Nat × Nat × Nat × Smy R) := (47, 0, 3, gL2 sp_zs_47_3_10 rd_zs_47_3_10 br (gL2 sp_zs_47_3_9 rd_zs_47_3_9 br (gL2 sp_zs_47_3_8 rd_zs_47_3_8 br (gL sp_zs_47_3 rd_zs_47_3 br)))) :: ll_zs_47_3_9
theorem lk_zs_47_3_10 {R : Type} : ∀ e ∈ ll_zs_47_3_10 (R := R), LoopTells Tryz.prog X106 M_zs L_zs e.2.1 (L_zs e.1) (bodyOf Tryz.prog e.1 e.2.2.1) e.2.2.2 := List.forall_mem_cons.2 ⟨lo_zs_47_3_10, lk_zs_47_3_9⟩
def S_zs : FSp := ⟨[.agg [.i .i64, .i .i64], .one (.l 49)], [], [], [([.agg [.i .i64, .i .i64, .s], .one (.i .i64)], [])]⟩
noncomputable def m_zs : List U → Rt
 | [.i v0, .i v1, .l v2] =>
  (.test (v0 == (0 : Int))
  (let r0 : Rs := (lres rd_zs_47_3 [U.l v2, U.i (ln v2), U.i (0 : Int), U.i v0, U.i v1, U.i (0 : Int), U.i (0 : Int), U.s { data := #[] }, U.i (0 : Int), U.i (0 : Int), U.s { data := #[] }])
  (.test (ok r0 0)
  (.stop 0 [.i ((2 : Int)), .i (uI (out r0 0) 4), .s (uS (out r0 0) 5), .i ((0 : Int))])
  .fail))
  (.test (v0 == (1 : Int))
  (let r1 : Rs := (lres rd_zs_47_3_8 [U.l v2, U.i (ln v2), U.i (0 : Int), U.i v0, U.i v1, U.i (0 : Int), U.i (0 : Int), U.s { data := #[] }, U.i (0 : Int), U.i (0 : Int), U.b false])
  (.test (ok r1 0)
  (.test (!uB (out r1 0) 5)
  (.stop 0 [.i ((0 : Int)), .i ((0 : Int)), .s ({ data := #[] }), .i ((0 : Int))])
  (.test (decide (w64 (uI (out r1 0) 4) ≥ (0 : Int)))
  (.test (uI (out r1 0) 3 != (0 : Int))
  (.stop 0 [.i ((0 : Int)), .i ((0 : Int)), .s ({ data := #[] }), .i ((110 : Int))])
  (.test (decide (w64 (uI (out r1 0) 4) < (0 : Int)))
  (.test (uI (out r1 0) 3 != (18446744073709551615 : Int))
  (.stop 0 [.i ((0 : Int)), .i ((0 : Int)), .s ({ data := #[] }), .i ((110 : Int))])
  (.stop 0 [.i ((2 : Int)), .i (w64 (uI (out r1 0) 4)), .s ({ data := #[] }), .i ((0 : Int))]))
  (.stop 0 [.i ((2 : Int)), .i (w64 (uI (out r1 0) 4)), .s ({ data := #[] }), .i ((0 : Int))])))
  (.test (decide (w64 (uI (out r1 0) 4) < (0 : Int)))
  (.test (uI (out r1 0) 3 != (18446744073709551615 : Int))
  (.stop 0 [.i ((0 : Int)), .i ((0 : Int)), .s ({ data := #[] }), .i ((110 : Int))])
  (.stop 0 [.i ((2 : Int)), .i (w64 (uI (out r1 0) 4)), .s ({ data := #[] }), .i ((0 : Int))]))
  (.stop 0 [.i ((2 : Int)), .i (w64 (uI (out r1 0) 4)), .s ({ data := #[] }), .i ((0 : Int))]))))
  .fail))
  (.test (v0 == (2 : Int))
  (let r2 : Rs := (lres rd_zs_47_3_9 [U.l v2, U.i (ln v2), U.i (0 : Int), U.i v0, U.i v1, U.i (0 : Int), U.i (0 : Int), U.s { data := #[] }, U.i (0 : Int), U.i (0 : Int), U.s { data := #[] }, U.i (1 : Int)])
  (.test (ok r2 0)
  (.stop 0 [.i (uI (out r2 0) 3), .i (uI (out r2 0) 4), .s (uS (out r2 0) 5), .i ((0 : Int))])
  .fail))
  (.test (v0 == (3 : Int))
  (let r3 : Rs := (lres rd_zs_47_3_9 [U.l v2, U.i (ln v2), U.i (0 : Int), U.i v0, U.i v1, U.i (0 : Int), U.i (0 : Int), U.s { data := #[] }, U.i (0 : Int), U.i (0 : Int), U.s { data := #[] }, U.i (-1 : Int)])
  (.test (ok r3 0)
  (.stop 0 [.i (uI (out r3 0) 3), .i (uI (out r3 0) 4), .s (uS (out r3 0) 5), .i ((0 : Int))])
  .fail))
  (let r4 : Rs := (lres rd_zs_47_3_10 [U.l v2, U.i (ln v2), U.i (0 : Int), U.i v0, U.i v1, U.i (0 : Int), U.i (0 : Int), U.s { data := #[] }, U.i (0 : Int), U.i (0 : Int), U.s { data := #[] }])
  (.test (ok r4 0)
  (.stop 0 [.i (uI (out r4 0) 3), .i (uI (out r4 0) 4), .s (uS (out r4 0) 5), .i ((0 : Int))])
  .fail))))))
 | _ => .fail
set_option maxRecDepth 100000 in
theorem q_zs (v0 v1 : Int) (v2 : List (List PV)) : callK br Tryz.prog X106 M_zs L_zs (lsT ll_zs_47_3_10) 60 47 (encs [.i v0, .i v1, .l v2] 0 S_zs.ap) (encH [.i v0, .i v1, .l v2] (ws S_zs.ap) S_zs.ah) (fun y => fixR Tryz.prog S_zs.plan S_zs.ah.length y) =
  (m_zs [.i v0, .i v1, .l v2]).go br (fun _ => none) S_zs.fin := by
 rw [← callF_eq]; kernel_rfl
theorem e_zs : EOK Tryz.prog 47 (gF S_zs m_zs) :=
 eokTold mixed named x106 (loopsOK_list rids lk_zs_47_3_10) 60 S_zs m_zs (by
  intro us v h; unfold m_zs at h; split at h
  ·rename_i v0 v1 v2; exact q_zs v0 v1 v2
  ·cases h) false
noncomputable abbrev X107 : Ext := extT [(47, (gF S_zs m_zs))] X106
theorem x107 : XOK Tryz.prog X107 := xok1 x106 e_zs

/-- levee/row.Pick -/
def L_zu : FuncId → Nat → Option (List Nat) := liveT [(44, 3, [0, 79000006, 9, 10, 11]), (44, 1000003, [6]), (44, 2000003, [4, 5])]
def M_zu : FuncId → Bool := fun _ => false
noncomputable def rd_zu_44_3 : List U → Rt
 | [.l v0, .l v1, .i v2, .i v3, .l v4] =>
  (.test (decide (v3 < v2))
  (.test (inR v3 (ln v1))
  (.test (decide (cI (el v1 v3) 0 < (0 : Int)))
  (.stop 0 [.b false])
  (.test (decide (cI (el v1 v3) 0 ≥ ln v0))
  (.stop 0 [.b false])
  (.test (inR (cI (el v1 v3) 0) (ln v0))
  (.test (decide ((List.length v4 + 1) * 32 ≤ 140737488355328))
  (.next [.l v0, .l v1, .i v2, .i (w64 (v3 + (1 : Int))), .l (v4 ++ [[pI (cI (el v0 (cI (el v1 v3) 0)) 0), pI (cI (el v0 (cI (el v1 v3) 0)) 1), pS (cS (el v0 (cI (el v1 v3) 0)) 2)]])])
  .fail)
  .fail)))
  .fail)
  (.stop 1 [.l v4]))
 | _ => .fail
def sp_zu_44_3 : LSp := ⟨32, ⟨[(0, .one (.l 39)), (6, .one (.all 0)), (9, .one (.l 3)), (10, .one (.i .i64)), (11, .one (.i .i64))], [.arr 39 true]⟩, [(.ret, ⟨[(4, .one (.nils)), (5, .one (.b))], []⟩), (.exit 0, ⟨[(6, .one (.all 0))], [.arr 39 true]⟩)]⟩
set_option maxRecDepth 100000 in
theorem rq_zu_44_3 (v0 v1 : List (List PV)) (v2 v3 : Int) (v4 : List (List PV)) : runK br Tryz.prog (callK br Tryz.prog X107 M_zu L_zu (lsT []) 40) M_zu (lsT [] 44 0) 40 0 (L_zu 44) (bodyOf Tryz.prog 44 3) (sp_zu_44_3.s.ts sp_zu_44_3.n [.l v0, .l v1, .i v2, .i v3, .l v4]) (sp_zu_44_3.s.h [.l v0, .l v1, .i v2, .i v3, .l v4]) (idc Tryz.prog 0 (L_zu 44) 3) =
  (rd_zu_44_3 [.l v0, .l v1, .i v2, .i v3, .l v4]).go br (fun us' => some (.normal, sp_zu_44_3.s.ts sp_zu_44_3.n us', sp_zu_44_3.s.h us')) sp_zu_44_3.fin := by
 rw [← callF_eq, ← runF_eq]; kernel_rfl
theorem lo_zu_44_3 {R : Type} : LoopTells Tryz.prog X107 M_zu L_zu 0 (L_zu 44) (bodyOf Tryz.prog 44 3) (gL (R := R) sp_zu_44_3 rd_zu_44_3 br) :=
 loopTold (callK_ev (loopsOK_list rids noneIn) 40) (lsokIn (loopsOK_list rids noneIn) 44 0 3) (by kernel_rfl) sp_zu_44_3 rd_zu_44_3 rfl (by kernel_rfl) (by
  intro us v h; unfold rd_zu_44_3 at h; split at h
  ·rename_i v0 v1 v2 v3 v4; exact rq_zu_44_3 v0 v1 v2 v3 v4
  ·cases h)
noncomputable abbrev ll_zu_44_3 {R : Type} : List (Nat × Nat × Nat × Smy R) := (44, 0, 3, gL sp_zu_44_3 rd_zu_44_3 br) :: []
theorem lk_zu_44_3 {R : Type} : ∀ e ∈ ll_zu_44_3 (R := R), LoopTells Tryz.prog X107 M_zu L_zu e.2.1 (L_zu e.1) (bodyOf Tryz.prog e.1 e.2.2.1) e.2.2.2 := List.forall_mem_cons.2 ⟨lo_zu_44_3, noneIn⟩
def S_zu : FSp := ⟨[.one (.l 39), .one (.l 3)], [], [79000000], [([.one (.all 0), .one (.b)], [.arr 39 true])]⟩
noncomputable def m_zu : List U → Rt
 | [.l v0, .l v1] =>
  (let r0 : Rs := (lres rd_zu_44_3 [U.l v0, U.l v1, U.i (ln v1), U.i (0 : Int), U.l []])
  (.test (ok r0 0)
  (.stop 0 [.b (uB (out r0 0) 0), .l []])
  (.test (ok r0 1)
  (.stop 0 [.b true, .l (uL (out r0 1) 0)])
  .fail)))
 | _ => .fail
set_option maxRecDepth 100000 in
theorem q_zu (v0 v1 : List (List PV)) : callK br Tryz.prog X107 M_zu L_zu (lsT ll_zu_44_3) 60 44 (encs [.l v0, .l v1] 0 S_zu.ap) (encH [.l v0, .l v1] (ws S_zu.ap) S_zu.ah) (fun y => fixR Tryz.prog S_zu.plan S_zu.ah.length y) =
  (m_zu [.l v0, .l v1]).go br (fun _ => none) S_zu.fin := by
 rw [← callF_eq]; kernel_rfl
theorem e_zu : EOK Tryz.prog 44 (gF S_zu m_zu) :=
 eokTold mixed named x107 (loopsOK_list rids lk_zu_44_3) 60 S_zu m_zu (by
  intro us v h; unfold m_zu at h; split at h
  ·rename_i v0 v1; exact q_zu v0 v1
  ·cases h) false
noncomputable abbrev X109 : Ext := extT [(44, (gF S_zu m_zu))] X107
theorem x109 : XOK Tryz.prog X109 := xok1 x107 e_zu

/-- levee/query.Pick -/
def L_zv : FuncId → Nat → Option (List Nat) := liveT [(43, 5, [2, 99000005, 14, 15, 16]), (43, 1000005, [5]), (43, 2000005, [4])]
def M_zv : FuncId → Bool := fun _ => false
noncomputable def rd_zv_43_5 : List U → Rt
 | [.l v0, .i v1, .i v2, .s v3, .s v4, .s v5, .i v6, .i v7, .l v8, .l v9, .b v10, .l v11, .l v12] =>
  (.test (decide (v2 < v1))
  (.test (inR v2 (ln v0))
  (let r0 : Rs := (Rt.res (m_zu [U.l (cL (el v0 v2) 0), U.l v9]))
  (.test (ok r0 0)
  (.test (uB (out r0 0) 0)
  (.test (decide (ln (uL (out r0 0) 1) ≤ (40 : Int)))
  (.test (decide ((List.length v12 + 1) * 32 ≤ 140737488355328))
  (.next [.l v0, .i v1, .i (w64 (v2 + (1 : Int))), .s v3, .s v4, .s v5, .i v6, .i v7, .l v8, .l v9, .b v10, .l v11, .l (v12 ++ [[PV.lst 39 (uL (out r0 0) 1), pI (cI (el v0 v2) 1)]])])
  .fail)
  (.next [.l v0, .i v1, .i (w64 (v2 + (1 : Int))), .s v3, .s v4, .s v5, .i v6, .i v7, .l v8, .l v9, .b v10, .l v11, .l v12]))
  (.next [.l v0, .i v1, .i (w64 (v2 + (1 : Int))), .s v3, .s v4, .s v5, .i v6, .i v7, .l v8, .l v9, .b v10, .l v11, .l v12]))
  .fail))
  .fail)
  (.stop 0 [.l v12]))
 | _ => .fail
def sp_zv_43_5 : LSp := ⟨48, ⟨[(2, .one (.ptr 0 0)), (5, .one (.all 1)), (14, .one (.l 49)), (15, .one (.i .i64)), (16, .one (.i .i64))], [.box 28 [.one (.s), .one (.s), .one (.s), .one (.i .i64), .one (.i .i64), .one (.l 192), .one (.l 3), .one (.b), .one (.l 32)], .arr 49 true]⟩, [(.exit 0, ⟨[(5, .one (.all 0))], [.arr 49 true]⟩)]⟩
set_option maxRecDepth 100000 in
theorem rq_zv_43_5 (v0 : List (List PV)) (v1 v2 : Int) (v3 v4 v5 : ByteArray) (v6 v7 : Int) (v8 v9 : List (List PV)) (v10 : Bool) (v11 v12 : List (List PV)) : runK br Tryz.prog (callK br Tryz.prog X109 M_zv L_zv (lsT []) 40) M_zv (lsT [] 43 0) 40 0 (L_zv 43) (bodyOf Tryz.prog 43 5) (sp_zv_43_5.s.ts sp_zv_43_5.n [.l v0, .i v1, .i v2, .s v3, .s v4, .s v5, .i v6, .i v7, .l v8, .l v9, .b v10, .l v11, .l v12]) (sp_zv_43_5.s.h [.l v0, .i v1, .i v2, .s v3, .s v4, .s v5, .i v6, .i v7, .l v8, .l v9, .b v10, .l v11, .l v12]) (idc Tryz.prog 0 (L_zv 43) 5) =
  (rd_zv_43_5 [.l v0, .i v1, .i v2, .s v3, .s v4, .s v5, .i v6, .i v7, .l v8, .l v9, .b v10, .l v11, .l v12]).go br (fun us' => some (.normal, sp_zv_43_5.s.ts sp_zv_43_5.n us', sp_zv_43_5.s.h us')) sp_zv_43_5.fin := by
 rw [← callF_eq, ← runF_eq]; kernel_rfl
theorem lo_zv_43_5 {R : Type} : LoopTells Tryz.prog X109 M_zv L_zv 0 (L_zv 43) (bodyOf Tryz.prog 43 5) (gL (R := R) sp_zv_43_5 rd_zv_43_5 br) :=
 loopTold (callK_ev (loopsOK_list rids noneIn) 40) (lsokIn (loopsOK_list rids noneIn) 43 0 5) (by kernel_rfl) sp_zv_43_5 rd_zv_43_5 rfl (by kernel_rfl) (by
  intro us v h; unfold rd_zv_43_5 at h; split at h
  ·rename_i v0 v1 v2 v3 v4 v5 v6 v7 v8 v9 v10 v11 v12; exact rq_zv_43_5 v0 v1 v2 v3 v4 v5 v6 v7 v8 v9 v10 v11 v12
  ·cases h)
noncomputable abbrev ll_zv_43_5 {R : Type} : List (Nat × Nat × Nat × Smy R) := (43, 0, 5, gL sp_zv_43_5 rd_zv_43_5 br) :: []
theorem lk_zv_43_5 {R : Type} : ∀ e ∈ ll_zv_43_5 (R := R), LoopTells Tryz.prog X109 M_zv L_zv e.2.1 (L_zv e.1) (bodyOf Tryz.prog e.1 e.2.2.1) e.2.2.2 := List.forall_mem_cons.2 ⟨lo_zv_43_5, noneIn⟩
def S_zv : FSp := ⟨[.agg [.s, .s, .s, .i .i64, .i .i64, .l 192, .l 3, .b, .l 32], .one (.l 49)], [], [99000000], [([.one (.all 0)], [.arr 49 true])]⟩
noncomputable def m_zv : List U → Rt
 | [.s v0, .s v1, .s v2, .i v3, .i v4, .l v5, .l v6, .b v7, .l v8, .l v9] =>
  (let r0 : Rs := (Rt.res (m_zq [U.l v9]))
  (.test (ok r0 0)
  (.test (!uB (out r0 0) 0)
  (.stop 0 [.l []])
  (let r1 : Rs := (lres rd_zv_43_5 [U.l v9, U.i (ln v9), U.i (0 : Int), U.s v0, U.s v1, U.s v2, U.i v3, U.i v4, U.l v5, U.l v6, U.b v7, U.l v8, U.l []])
  (.test (ok r1 0)
  (let r2 : Rs := (Rt.res (m_zm [U.l (uL (out r1 0) 0)]))
  (.test (ok r2 0)
  (let r3 : Rs := (Rt.res (m_zq [U.l (uL (out r2 0) 0)]))
  (.test (ok r3 0)
  (.test (!uB (out r3 0) 0)
  (.stop 0 [.l []])
  (.stop 0 [.l (uL (out r2 0) 0)]))
  .fail))
  .fail))
  .fail)))
  .fail))
 | _ => .fail
set_option maxRecDepth 100000 in
theorem q_zv (v0 v1 v2 : ByteArray) (v3 v4 : Int) (v5 v6 : List (List PV)) (v7 : Bool) (v8 v9 : List (List PV)) : callK br Tryz.prog X109 M_zv L_zv (lsT ll_zv_43_5) 60 43 (encs [.s v0, .s v1, .s v2, .i v3, .i v4, .l v5, .l v6, .b v7, .l v8, .l v9] 0 S_zv.ap) (encH [.s v0, .s v1, .s v2, .i v3, .i v4, .l v5, .l v6, .b v7, .l v8, .l v9] (ws S_zv.ap) S_zv.ah) (fun y => fixR Tryz.prog S_zv.plan S_zv.ah.length y) =
  (m_zv [.s v0, .s v1, .s v2, .i v3, .i v4, .l v5, .l v6, .b v7, .l v8, .l v9]).go br (fun _ => none) S_zv.fin := by
 rw [← callF_eq]; kernel_rfl
theorem e_zv : EOK Tryz.prog 43 (gF S_zv m_zv) :=
 eokTold mixed named x109 (loopsOK_list rids lk_zv_43_5) 60 S_zv m_zv (by
  intro us v h; unfold m_zv at h; split at h
  ·rename_i v0 v1 v2 v3 v4 v5 v6 v7 v8 v9; exact q_zv v0 v1 v2 v3 v4 v5 v6 v7 v8 v9
  ·cases h) false
noncomputable abbrev X110 : Ext := extT [(43, (gF S_zv m_zv))] X109
theorem x110 : XOK Tryz.prog X110 := xok1 x109 e_zv

/-- internal/strconv.FormatBool -/
def L_zw : FuncId → Nat → Option (List Nat) := liveT []
def M_zw : FuncId → Bool := fun _ => false
def S_zw : FSp := ⟨[.one (.b)], [], [], [([.one (.s)], [])]⟩
noncomputable def m_zw : List U → Rt
 | [.b v0] =>
  (.test v0
  (.stop 0 [.s ({ data := #[(116 : UInt8), (114 : UInt8), (117 : UInt8), (101 : UInt8)] })])
  (.stop 0 [.s ({ data := #[(102 : UInt8), (97 : UInt8), (108 : UInt8), (115 : UInt8), (101 : UInt8)] })]))
 | _ => .fail
set_option maxRecDepth 100000 in
theorem q_zw (v0 : Bool) : callK br Tryz.prog X110 M_zw L_zw (lsT []) 60 99 (encs [.b v0] 0 S_zw.ap) (encH [.b v0] (ws S_zw.ap) S_zw.ah) (fun y => fixR Tryz.prog S_zw.plan S_zw.ah.length y) =
  (m_zw [.b v0]).go br (fun _ => none) S_zw.fin := by
 rw [← callF_eq]; kernel_rfl
theorem e_zw : EOK Tryz.prog 99 (gF S_zw m_zw) :=
 eokTold mixed named x110 (loopsOK_list rids noneIn) 60 S_zw m_zw (by
  intro us v h; unfold m_zw at h; split at h
  ·rename_i v0; exact q_zw v0
  ·cases h) false
noncomputable abbrev X111 : Ext := extT [(99, (gF S_zw m_zw))] X110
theorem x111 : XOK Tryz.prog X111 := xok1 x110 e_zw

/-- levee/value.Text -/
def L_zx : FuncId → Nat → Option (List Nat) := liveT []
def M_zx : FuncId → Bool := fun _ => false
def S_zx : FSp := ⟨[.agg [.i .i64, .i .i64, .s]], [], [], [([.one (.s)], [])]⟩
noncomputable def m_zx : List U → Rt
 | [.i v0, .i v1, .s v2] =>
  (.test (v0 == (0 : Int))
  (.stop 0 [.s ({ data := #[(110 : UInt8), (117 : UInt8), (108 : UInt8), (108 : UInt8)] })])
  (.test (v0 == (1 : Int))
  (let r0 : Rs := (Rt.res (m_zw [U.b (v1 != (0 : Int))]))
  (.test (ok r0 0)
  (.stop 0 [.s (uS (out r0 0) 0)])
  .fail))
  (.test (v0 == (2 : Int))
  (.test (inI64 v1)
  (.stop 0 [.s (itoaB v1)])
  .fail)
  (.test (v0 == (3 : Int))
  (.test (replOk v2 { data := #[(39 : UInt8)] } { data := #[(39 : UInt8), (39 : UInt8)] })
  (.test (decide (1 + ByteArray.size (replB v2 { data := #[(39 : UInt8)] } { data := #[(39 : UInt8), (39 : UInt8)] }) ≤ 9223372036854775807))
  (.test (decide (ByteArray.size ({ data := #[(39 : UInt8)] } ++ replB v2 { data := #[(39 : UInt8)] } { data := #[(39 : UInt8), (39 : UInt8)] }) + 1 ≤ 9223372036854775807))
  (.stop 0 [.s ({ data := #[(39 : UInt8)] } ++ replB v2 { data := #[(39 : UInt8)] } { data := #[(39 : UInt8), (39 : UInt8)] } ++ { data := #[(39 : UInt8)] })])
  .fail)
  .fail)
  .fail)
  (.stop 0 [.s ({ data := #[(63 : UInt8)] })])))))
 | _ => .fail
set_option maxRecDepth 100000 in
theorem q_zx (v0 v1 : Int) (v2 : ByteArray) : callK br Tryz.prog X111 M_zx L_zx (lsT []) 60 68 (encs [.i v0, .i v1, .s v2] 0 S_zx.ap) (encH [.i v0, .i v1, .s v2] (ws S_zx.ap) S_zx.ah) (fun y => fixR Tryz.prog S_zx.plan S_zx.ah.length y) =
  (m_zx [.i v0, .i v1, .s v2]).go br (fun _ => none) S_zx.fin := by
 rw [← callF_eq]; kernel_rfl
theorem e_zx : EOK Tryz.prog 68 (gF S_zx m_zx) :=
 eokTold mixed named x111 (loopsOK_list rids noneIn) 60 S_zx m_zx (by
  intro us v h; unfold m_zx at h; split at h
  ·rename_i v0 v1 v2; exact q_zx v0 v1 v2
  ·cases h) false
noncomputable abbrev X112 : Ext := extT [(68, (gF S_zx m_zx))] X111
theorem x112 : XOK Tryz.prog X112 := xok1 x111 e_zx

/-- levee/row.Text -/
def L_zy : FuncId → Nat → Option (List Nat) := liveT [(45, 3, [19000003, 6, 7, 8]), (45, 1000003, [3]), (45, 2000003, [2])]
def M_zy : FuncId → Bool := fun _ => false
noncomputable def rd_zy_45_3 : List U → Rt
 | [.l v0, .i v1, .i v2, .l v3] =>
  (.test (decide (v2 < v1))
  (.test (inR v2 (ln v0))
  (let r0 : Rs := (Rt.res (m_zx [U.i (cI (el v0 v2) 0), U.i (cI (el v0 v2) 1), U.s (cS (el v0 v2) 2)]))
  (.test (ok r0 0)
  (.test (decide ((List.length v3 + 1) * 16 ≤ 140737488355328))
  (.next [.l v0, .i v1, .i (w64 (v2 + (1 : Int))), .l (v3 ++ [[pS (uS (out r0 0) 0)]])])
  .fail)
  .fail))
  .fail)
  (.stop 0 [.l v3]))
 | _ => .fail
def sp_zy_45_3 : LSp := ⟨22, ⟨[(3, .one (.all 0)), (6, .one (.l 39)), (7, .one (.i .i64)), (8, .one (.i .i64))], [.arr 9 true]⟩, [(.exit 0, ⟨[(3, .one (.all 0))], [.arr 9 true]⟩)]⟩
set_option maxRecDepth 100000 in
theorem rq_zy_45_3 (v0 : List (List PV)) (v1 v2 : Int) (v3 : List (List PV)) : runK br Tryz.prog (callK br Tryz.prog X112 M_zy L_zy (lsT []) 40) M_zy (lsT [] 45 0) 40 0 (L_zy 45) (bodyOf Tryz.prog 45 3) (sp_zy_45_3.s.ts sp_zy_45_3.n [.l v0, .i v1, .i v2, .l v3]) (sp_zy_45_3.s.h [.l v0, .i v1, .i v2, .l v3]) (idc Tryz.prog 0 (L_zy 45) 3) =
  (rd_zy_45_3 [.l v0, .i v1, .i v2, .l v3]).go br (fun us' => some (.normal, sp_zy_45_3.s.ts sp_zy_45_3.n us', sp_zy_45_3.s.h us')) sp_zy_45_3.fin := by
 rw [← callF_eq, ← runF_eq]; kernel_rfl
theorem lo_zy_45_3 {R : Type} : LoopTells Tryz.prog X112 M_zy L_zy 0 (L_zy 45) (bodyOf Tryz.prog 45 3) (gL (R := R) sp_zy_45_3 rd_zy_45_3 br) :=
 loopTold (callK_ev (loopsOK_list rids noneIn) 40) (lsokIn (loopsOK_list rids noneIn) 45 0 3) (by kernel_rfl) sp_zy_45_3 rd_zy_45_3 rfl (by kernel_rfl) (by
  intro us v h; unfold rd_zy_45_3 at h; split at h
  ·rename_i v0 v1 v2 v3; exact rq_zy_45_3 v0 v1 v2 v3
  ·cases h)
noncomputable abbrev ll_zy_45_3 {R : Type} : List (Nat × Nat × Nat × Smy R) := (45, 0, 3, gL sp_zy_45_3 rd_zy_45_3 br) :: []
theorem lk_zy_45_3 {R : Type} : ∀ e ∈ ll_zy_45_3 (R := R), LoopTells Tryz.prog X112 M_zy L_zy e.2.1 (L_zy e.1) (bodyOf Tryz.prog e.1 e.2.2.1) e.2.2.2 := List.forall_mem_cons.2 ⟨lo_zy_45_3, noneIn⟩
def S_zy : FSp := ⟨[.one (.l 39)], [], [], [([.one (.s)], [])]⟩
noncomputable def m_zy : List U → Rt
 | [.l v0] =>
  (let r0 : Rs := (lres rd_zy_45_3 [U.l v0, U.i (ln v0), U.i (0 : Int), U.l []])
  (.test (ok r0 0)
  (.test (joinOk (uL (out r0 0) 0) { data := #[(44 : UInt8), (32 : UInt8)] })
  (.test (decide (1 + ByteArray.size (joinB (uL (out r0 0) 0) { data := #[(44 : UInt8), (32 : UInt8)] }) ≤ 9223372036854775807))
  (.test (decide (ByteArray.size ({ data := #[(40 : UInt8)] } ++ joinB (uL (out r0 0) 0) { data := #[(44 : UInt8), (32 : UInt8)] }) + 1 ≤ 9223372036854775807))
  (.stop 0 [.s ({ data := #[(40 : UInt8)] } ++ joinB (uL (out r0 0) 0) { data := #[(44 : UInt8), (32 : UInt8)] } ++ { data := #[(41 : UInt8)] })])
  .fail)
  .fail)
  .fail)
  .fail))
 | _ => .fail
set_option maxRecDepth 100000 in
theorem q_zy (v0 : List (List PV)) : callK br Tryz.prog X112 M_zy L_zy (lsT ll_zy_45_3) 60 45 (encs [.l v0] 0 S_zy.ap) (encH [.l v0] (ws S_zy.ap) S_zy.ah) (fun y => fixR Tryz.prog S_zy.plan S_zy.ah.length y) =
  (m_zy [.l v0]).go br (fun _ => none) S_zy.fin := by
 rw [← callF_eq]; kernel_rfl
theorem e_zy : EOK Tryz.prog 45 (gF S_zy m_zy) :=
 eokTold mixed named x112 (loopsOK_list rids lk_zy_45_3) 60 S_zy m_zy (by
  intro us v h; unfold m_zy at h; split at h
  ·rename_i v0; exact q_zy v0
  ·cases h) false
noncomputable abbrev X113 : Ext := extT [(45, (gF S_zy m_zy))] X112
theorem x113 : XOK Tryz.prog X113 := xok1 x112 e_zy

/-- slices.Concat[levee/api.Row,levee/api.Value] -/
def L_zz : FuncId → Nat → Option (List Nat) := liveT [(70, 3, [0, 3, 9, 10, 11]), (70, 1000003, [0, 3]), (70, 2000003, [2]), (70, 11, [6, 25, 26, 27]), (70, 1000011, [6]), (70, 2000011, [2])]
def M_zz : FuncId → Bool := fun _ => false
noncomputable def rd_zz_70_3 : List U → Rt
 | [.l v0, .i v1, .l v2, .i v3, .i v4] =>
  (.test (decide (v4 < v3))
  (.test (inR v4 (ln v2))
  (.test (decide (w64 (v1 + ln (cL (el v2 v4) 0)) < (0 : Int)))
  .fail
  (.next [.l v0, .i (w64 (v1 + ln (cL (el v2 v4) 0))), .l v2, .i v3, .i (w64 (v4 + (1 : Int)))]))
  .fail)
  (.stop 0 [.l v0, .i v1]))
 | _ => .fail
def sp_zz_70_3 : LSp := ⟨36, ⟨[(0, .one (.l 47)), (3, .one (.i .i64)), (9, .one (.l 47)), (10, .one (.i .i64)), (11, .one (.i .i64))], []⟩, [(.exit 0, ⟨[(0, .one (.l 47)), (3, .one (.i .i64))], []⟩)]⟩
set_option maxRecDepth 100000 in
theorem rq_zz_70_3 (v0 : List (List PV)) (v1 : Int) (v2 : List (List PV)) (v3 v4 : Int) : runK br Tryz.prog (callK br Tryz.prog X113 M_zz L_zz (lsT []) 40) M_zz (lsT [] 70 0) 40 0 (L_zz 70) (bodyOf Tryz.prog 70 3) (sp_zz_70_3.s.ts sp_zz_70_3.n [.l v0, .i v1, .l v2, .i v3, .i v4]) (sp_zz_70_3.s.h [.l v0, .i v1, .l v2, .i v3, .i v4]) (idc Tryz.prog 0 (L_zz 70) 3) =
  (rd_zz_70_3 [.l v0, .i v1, .l v2, .i v3, .i v4]).go br (fun us' => some (.normal, sp_zz_70_3.s.ts sp_zz_70_3.n us', sp_zz_70_3.s.h us')) sp_zz_70_3.fin := by
 rw [← callF_eq, ← runF_eq]; kernel_rfl
theorem lo_zz_70_3 {R : Type} : LoopTells Tryz.prog X113 M_zz L_zz 0 (L_zz 70) (bodyOf Tryz.prog 70 3) (gL (R := R) sp_zz_70_3 rd_zz_70_3 br) :=
 loopTold (callK_ev (loopsOK_list rids noneIn) 40) (lsokIn (loopsOK_list rids noneIn) 70 0 3) (by kernel_rfl) sp_zz_70_3 rd_zz_70_3 rfl (by kernel_rfl) (by
  intro us v h; unfold rd_zz_70_3 at h; split at h
  ·rename_i v0 v1 v2 v3 v4; exact rq_zz_70_3 v0 v1 v2 v3 v4
  ·cases h)
noncomputable abbrev ll_zz_70_3 {R : Type} : List (Nat × Nat × Nat × Smy R) := (70, 0, 3, gL sp_zz_70_3 rd_zz_70_3 br) :: []
theorem lk_zz_70_3 {R : Type} : ∀ e ∈ ll_zz_70_3 (R := R), LoopTells Tryz.prog X113 M_zz L_zz e.2.1 (L_zz e.1) (bodyOf Tryz.prog e.1 e.2.2.1) e.2.2.2 := List.forall_mem_cons.2 ⟨lo_zz_70_3, noneIn⟩
noncomputable def rd_zz_70_11 : List U → Rt
 | [.l v0, .i v1, .i v2, .l v3] =>
  (.test (decide (v2 < v1))
  (.test (inR v2 (ln v0))
  (.test (decide ((List.length v3 + List.length (cL (el v0 v2) 0)) * 32 ≤ 140737488355328))
  (.next [.l v0, .i v1, .i (w64 (v2 + (1 : Int))), .l (v3 ++ cL (el v0 v2) 0)])
  .fail)
  .fail)
  (.stop 0 [.l v3]))
 | _ => .fail
def sp_zz_70_11 : LSp := ⟨36, ⟨[(6, .one (.all 0)), (25, .one (.l 47)), (26, .one (.i .i64)), (27, .one (.i .i64))], [.arr 39 true]⟩, [(.exit 2, ⟨[(6, .one (.all 0))], [.arr 39 true]⟩)]⟩
set_option maxRecDepth 100000 in
theorem rq_zz_70_11 (v0 : List (List PV)) (v1 v2 : Int) (v3 : List (List PV)) : runK br Tryz.prog (callK br Tryz.prog X113 M_zz L_zz (lsT ll_zz_70_3) 40) M_zz (lsT ll_zz_70_3 70 0) 40 0 (L_zz 70) (bodyOf Tryz.prog 70 11) (sp_zz_70_11.s.ts sp_zz_70_11.n [.l v0, .i v1, .i v2, .l v3]) (sp_zz_70_11.s.h [.l v0, .i v1, .i v2, .l v3]) (idc Tryz.prog 0 (L_zz 70) 11) =
  (rd_zz_70_11 [.l v0, .i v1, .i v2, .l v3]).go br (fun us' => some (.normal, sp_zz_70_11.s.ts sp_zz_70_11.n us', sp_zz_70_11.s.h us')) sp_zz_70_11.fin := by
 rw [← callF_eq, ← runF_eq]; kernel_rfl
theorem lo_zz_70_11 {R : Type} : LoopTells Tryz.prog X113 M_zz L_zz 0 (L_zz 70) (bodyOf Tryz.prog 70 11) (gL (R := R) sp_zz_70_11 rd_zz_70_11 br) :=
 loopTold (callK_ev (loopsOK_list rids lk_zz_70_3) 40) (lsokIn (loopsOK_list rids lk_zz_70_3) 70 0 11) (by kernel_rfl) sp_zz_70_11 rd_zz_70_11 rfl (by kernel_rfl) (by
  intro us v h; unfold rd_zz_70_11 at h; split at h
  ·rename_i v0 v1 v2 v3; exact rq_zz_70_11 v0 v1 v2 v3
  ·cases h)
noncomputable abbrev ll_zz_70_11 {R : Type} : List (Nat × Nat × Nat × Smy R) := (70, 0, 11, gL sp_zz_70_11 rd_zz_70_11 br) :: ll_zz_70_3
theorem lk_zz_70_11 {R : Type} : ∀ e ∈ ll_zz_70_11 (R := R), LoopTells Tryz.prog X113 M_zz L_zz e.2.1 (L_zz e.1) (bodyOf Tryz.prog e.1 e.2.2.1) e.2.2.2 := List.forall_mem_cons.2 ⟨lo_zz_70_11, lk_zz_70_3⟩
def S_zz : FSp := ⟨[.one (.l 47)], [], [], [([.one (.all 0)], [.arr 39 true])]⟩
noncomputable def m_zz : List U → Rt
 | [.l v0] =>
  (let r0 : Rs := (lres rd_zz_70_3 [U.l v0, U.i (0 : Int), U.l v0, U.i (ln v0), U.i (0 : Int)])
  (.test (ok r0 0)
  (.test (decide ((0 : Int) ≤ uI (out r0 0) 1 ∧ uI (out r0 0) 1 * (32 : Int) ≤ (140737488355328 : Int)))
  (let r1 : Rs := (lres rd_zz_70_11 [U.l (uL (out r0 0) 0), U.i (ln (uL (out r0 0) 0)), U.i (0 : Int), U.l []])
  (.test (ok r1 0)
  (.stop 0 [.l (uL (out r1 0) 0)])
  .fail))
  .fail)
  .fail))
 | _ => .fail
set_option maxRecDepth 100000 in
theorem q_zz (v0 : List (List PV)) : callK br Tryz.prog X113 M_zz L_zz (lsT ll_zz_70_11) 60 70 (encs [.l v0] 0 S_zz.ap) (encH [.l v0] (ws S_zz.ap) S_zz.ah) (fun y => fixR Tryz.prog S_zz.plan S_zz.ah.length y) =
  (m_zz [.l v0]).go br (fun _ => none) S_zz.fin := by
 rw [← callF_eq]; kernel_rfl
theorem e_zz : EOK Tryz.prog 70 (gF S_zz m_zz) :=
 eokTold mixed named x113 (loopsOK_list rids lk_zz_70_11) 60 S_zz m_zz (by
  intro us v h; unfold m_zz at h; split at h
  ·rename_i v0; exact q_zz v0
  ·cases h) false
noncomputable abbrev X114 : Ext := extT [(70, (gF S_zz m_zz))] X113
theorem x114 : XOK Tryz.prog X114 := xok1 x113 e_zz

/-- levee/row.Join -/
def L_zaa : FuncId → Nat → Option (List Nat) := liveT []
def M_zaa : FuncId → Bool := fun _ => false
def S_zaa : FSp := ⟨[.one (.l 47)], [], [], [([.one (.all 0)], [.arr 39 true])]⟩
noncomputable def m_zaa : List U → Rt
 | [.l v0] =>
  (let r0 : Rs := (Rt.res (m_zz [U.l v0]))
  (.test (ok r0 0)
  (.stop 0 [.l (uL (out r0 0) 0)])
  .fail))
 | _ => .fail
set_option maxRecDepth 100000 in
theorem q_zaa (v0 : List (List PV)) : callK br Tryz.prog X114 M_zaa L_zaa (lsT []) 60 46 (encs [.l v0] 0 S_zaa.ap) (encH [.l v0] (ws S_zaa.ap) S_zaa.ah) (fun y => fixR Tryz.prog S_zaa.plan S_zaa.ah.length y) =
  (m_zaa [.l v0]).go br (fun _ => none) S_zaa.fin := by
 rw [← callF_eq]; kernel_rfl
theorem e_zaa : EOK Tryz.prog 46 (gF S_zaa m_zaa) :=
 eokTold mixed named x114 (loopsOK_list rids noneIn) 60 S_zaa m_zaa (by
  intro us v h; unfold m_zaa at h; split at h
  ·rename_i v0; exact q_zaa v0
  ·cases h) false
noncomputable abbrev X115 : Ext := extT [(46, (gF S_zaa m_zaa))] X114
theorem x115 : XOK Tryz.prog X115 := xok1 x114 e_zaa

/-- levee/group.Rows -/
def L_zab : FuncId → Nat → Option (List Nat) := liveT [(15, 9, [2, 7, 8, 34, 35, 36]), (15, 1000009, [2, 7, 8]), (15, 2000009, [4, 5]), (15, 23, [2, 8, 13, 15, 16, 60, 61, 62, 79, 80, 81]), (15, 1000023, [2, 8, 13, 16, 60, 61, 62]), (15, 2000023, [4, 5]), (15, 17, [2, 499999000008, 99000013, 60, 61, 62]), (15, 1000017, [13]), (15, 2000017, [4, 5])]
def M_zab : FuncId → Bool := fun _ => false
noncomputable def rd_zab_15_9 : List U → Rt
 | [.l v0, .i v1, .i v2, .s v3, .s v4, .s v5, .i v6, .i v7, .l v8, .l v9, .b v10, .l v11, .l v12, .l v13] =>
  (.test (decide (v2 < v1))
  (.test (inR v2 (ln v0))
  (let r0 : Rs := (Rt.res (m_zu [U.l (cL (el v0 v2) 0), U.l v9]))
  (.test (ok r0 0)
  (.test (uB (out r0 0) 0)
  (let r1 : Rs := (Rt.res (m_zy [U.l (uL (out r0 0) 1)]))
  (.test (ok r1 0)
  (let r2 : Rs := (Rt.res (m_zy [U.l (uL (out r0 0) 1)]))
  (.test (ok r2 0)
  (.test (decide ((List.length (lkM v13 (uS (out r2 0) 0)) + 1) * 32 ≤ 140737488355328))
  (.test (decide (uS (out r1 0) 0 = uS (out r2 0) 0))
  (.next [.l v0, .i v1, .i (w64 (v2 + (1 : Int))), .s v3, .s v4, .s v5, .i v6, .i v7, .l v8, .l v9, .b v10, .l v11, .l v12, .l (putM v13 (uS (out r1 0) 0) (PV.lst 49 (lkM v13 (uS (out r2 0) 0) ++ [[PV.lst 39 (cL (el v0 v2) 0), pI (cI (el v0 v2) 1)]])))])
  .fail)
  .fail)
  .fail))
  .fail))
  (.next [.l v0, .i v1, .i (w64 (v2 + (1 : Int))), .s v3, .s v4, .s v5, .i v6, .i v7, .l v8, .l v9, .b v10, .l v11, .l v12, .l v13]))
  .fail))
  .fail)
  (.stop 0 [.s v3, .s v4, .s v5, .i v6, .i v7, .l v8, .l v9, .b v10, .l v11, .l v12, .l v13]))
 | _ => .fail
def sp_zab_15_9 : LSp := ⟨110, ⟨[(2, .one (.ptr 0 0)), (7, .one (.all 1)), (8, .one (.mp 2)), (34, .one (.l 49)), (35, .one (.i .i64)), (36, .one (.i .i64))], [.box 28 [.one (.s), .one (.s), .one (.s), .one (.i .i64), .one (.i .i64), .one (.l 192), .one (.l 3), .one (.b), .one (.l 32)], .arr 49 true, .map 29 false]⟩, [(.exit 0, ⟨[(2, .one (.ptr 0 0)), (7, .one (.all 1)), (8, .one (.mp 2))], [.box 28 [.one (.s), .one (.s), .one (.s), .one (.i .i64), .one (.i .i64), .one (.l 192), .one (.l 3), .one (.b), .one (.l 32)], .arr 49 true, .map 29 false]⟩)]⟩
set_option maxRecDepth 100000 in
theorem rq_zab_15_9 (v0 : List (List PV)) (v1 v2 : Int) (v3 v4 v5 : ByteArray) (v6 v7 : Int) (v8 v9 : List (List PV)) (v10 : Bool) (v11 v12 v13 : List (List PV)) : runK br Tryz.prog (callK br Tryz.prog X115 M_zab L_zab (lsT []) 40) M_zab (lsT [] 15 0) 40 0 (L_zab 15) (bodyOf Tryz.prog 15 9) (sp_zab_15_9.s.ts sp_zab_15_9.n [.l v0, .i v1, .i v2, .s v3, .s v4, .s v5, .i v6, .i v7, .l v8, .l v9, .b v10, .l v11, .l v12, .l v13]) (sp_zab_15_9.s.h [.l v0, .i v1, .i v2, .s v3, .s v4, .s v5, .i v6, .i v7, .l v8, .l v9, .b v10, .l v11, .l v12, .l v13]) (idc Tryz.prog 0 (L_zab 15) 9) =
  (rd_zab_15_9 [.l v0, .i v1, .i v2, .s v3, .s v4, .s v5, .i v6, .i v7, .l v8, .l v9, .b v10, .l v11, .l v12, .l v13]).go br (fun us' => some (.normal, sp_zab_15_9.s.ts sp_zab_15_9.n us', sp_zab_15_9.s.h us')) sp_zab_15_9.fin := by
 rw [← callF_eq, ← runF_eq]; kernel_rfl
theorem lo_zab_15_9 {R : Type} : LoopTells Tryz.prog X115 M_zab L_zab 0 (L_zab 15) (bodyOf Tryz.prog 15 9) (gL (R := R) sp_zab_15_9 rd_zab_15_9 br) :=
 loopTold (callK_ev (loopsOK_list rids noneIn) 40) (lsokIn (loopsOK_list rids noneIn) 15 0 9) (by kernel_rfl) sp_zab_15_9 rd_zab_15_9 rfl (by kernel_rfl) (by
  intro us v h; unfold rd_zab_15_9 at h; split at h
  ·rename_i v0 v1 v2 v3 v4 v5 v6 v7 v8 v9 v10 v11 v12 v13; exact rq_zab_15_9 v0 v1 v2 v3 v4 v5 v6 v7 v8 v9 v10 v11 v12 v13
  ·cases h)
noncomputable abbrev ll_zab_15_9 {R : Type} : List (Nat × Nat × Nat × Smy R) := (15, 0, 9, gL sp_zab_15_9 rd_zab_15_9 br) :: []
theorem lk_zab_15_9 {R : Type} : ∀ e ∈ ll_zab_15_9 (R := R), LoopTells Tryz.prog X115 M_zab L_zab e.2.1 (L_zab e.1) (bodyOf Tryz.prog e.1 e.2.2.1) e.2.2.2 := List.forall_mem_cons.2 ⟨lo_zab_15_9, noneIn⟩
noncomputable def rd_zab_15_23 : List U → Rt
 | [.i v0, .i v1, .l v2, .i v3, .i v4, .s v5, .s v6, .s v7, .i v8, .i v9, .l v10, .l v11, .b v12, .l v13, .l v14, .l v15, .l v16, .i v17, .l v18, .l v19] =>
  (.test (decide (v4 < v3))
  (.test (inR v4 (ln v2))
  (let r0 : Rs := (Rt.res (m_zy [U.l v16]))
  (.test (ok r0 0)
  (let r1 : Rs := (Rt.res (m_zs [U.i (cI (el v2 v4) 0), U.i (cI (el v2 v4) 1), U.l (lkM v14 (uS (out r0 0) 0))]))
  (.test (ok r1 0)
  (.test (uI (out r1 0) 3 != (0 : Int))
  (.stop 0 [.i (uI (out r1 0) 3)])
  (.test (decide ((List.length v18 + 1) * 32 ≤ 140737488355328))
  (.next [.i v0, .i v1, .l v2, .i v3, .i (w64 (v4 + (1 : Int))), .s v5, .s v6, .s v7, .i v8, .i v9, .l v10, .l v11, .b v12, .l v13, .l v14, .l v15, .l v16, .i v17, .l (v18 ++ [[pI (uI (out r1 0) 0), pI (uI (out r1 0) 1), pS (uS (out r1 0) 2)]]), .l v19])
  .fail))
  .fail))
  .fail))
  .fail)
  (.stop 1 [.i v0, .i v1, .s v5, .s v6, .s v7, .i v8, .i v9, .l v10, .l v11, .b v12, .l v13, .l v14, .l v15, .l v18, .l v19]))
 | _ => .fail
def sp_zab_15_23 : LSp := ⟨110, ⟨[(2, .one (.ptr 0 0)), (8, .one (.mp 1)), (13, .one (.all 2)), (15, .one (.ptr 3 0)), (16, .one (.all 4)), (60, .one (.all 5)), (61, .one (.i .i64)), (62, .one (.i .i64)), (79, .one (.l 32)), (80, .one (.i .i64)), (81, .one (.i .i64))], [.box 28 [.one (.s), .one (.s), .one (.s), .one (.i .i64), .one (.i .i64), .one (.l 192), .one (.l 3), .one (.b), .one (.l 32)], .map 29 true, .arr 49 true, .box 49 [.one (.l 39), .one (.i .i64)], .arr 39 true, .arr 49 true]⟩, [(.ret, ⟨[(4, .one (.nils)), (5, .one (.i .i64))], []⟩), (.exit 4, ⟨[(2, .one (.ptr 0 0)), (8, .one (.mp 1)), (13, .one (.all 2)), (16, .one (.all 3)), (60, .one (.all 4)), (61, .one (.i .i64)), (62, .one (.i .i64))], [.box 28 [.one (.s), .one (.s), .one (.s), .one (.i .i64), .one (.i .i64), .one (.l 192), .one (.l 3), .one (.b), .one (.l 32)], .map 29 true, .arr 49 true, .arr 39 true, .arr 49 true]⟩)]⟩
set_option maxRecDepth 100000 in
theorem rq_zab_15_23 (v0 v1 : Int) (v2 : List (List PV)) (v3 v4 : Int) (v5 v6 v7 : ByteArray) (v8 v9 : Int) (v10 v11 : List (List PV)) (v12 : Bool) (v13 v14 v15 v16 : List (List PV)) (v17 : Int) (v18 v19 : List (List PV)) : runK br Tryz.prog (callK br Tryz.prog X115 M_zab L_zab (lsT ll_zab_15_9) 40) M_zab (lsT ll_zab_15_9 15 0) 40 0 (L_zab 15) (bodyOf Tryz.prog 15 23) (sp_zab_15_23.s.ts sp_zab_15_23.n [.i v0, .i v1, .l v2, .i v3, .i v4, .s v5, .s v6, .s v7, .i v8, .i v9, .l v10, .l v11, .b v12, .l v13, .l v14, .l v15, .l v16, .i v17, .l v18, .l v19]) (sp_zab_15_23.s.h [.i v0, .i v1, .l v2, .i v3, .i v4, .s v5, .s v6, .s v7, .i v8, .i v9, .l v10, .l v11, .b v12, .l v13, .l v14, .l v15, .l v16, .i v17, .l v18, .l v19]) (idc Tryz.prog 0 (L_zab 15) 23) =
  (rd_zab_15_23 [.i v0, .i v1, .l v2, .i v3, .i v4, .s v5, .s v6, .s v7, .i v8, .i v9, .l v10, .l v11, .b v12, .l v13, .l v14, .l v15, .l v16, .i v17, .l v18, .l v19]).go br (fun us' => some (.normal, sp_zab_15_23.s.ts sp_zab_15_23.n us', sp_zab_15_23.s.h us')) sp_zab_15_23.fin := by
 rw [← callF_eq, ← runF_eq]; kernel_rfl
theorem lo_zab_15_23 {R : Type} : LoopTells Tryz.prog X115 M_zab L_zab 0 (L_zab 15) (bodyOf Tryz.prog 15 23) (gL (R := R) sp_zab_15_23 rd_zab_15_23 br) :=
 loopTold (callK_ev (loopsOK_list rids lk_zab_15_9) 40) (lsokIn (loopsOK_list rids lk_zab_15_9) 15 0 23) (by kernel_rfl) sp_zab_15_23 rd_zab_15_23 rfl (by kernel_rfl) (by
  intro us v h; unfold rd_zab_15_23 at h; split at h
  ·rename_i v0 v1 v2 v3 v4 v5 v6 v7 v8 v9 v10 v11 v12 v13 v14 v15 v16 v17 v18 v19; exact rq_zab_15_23 v0 v1 v2 v3 v4 v5 v6 v7 v8 v9 v10 v11 v12 v13 v14 v15 v16 v17 v18 v19
  ·cases h)
noncomputable abbrev ll_zab_15_23 {R : Type} : List (Nat × Nat × Nat × Smy R) := (15, 0, 23, gL sp_zab_15_23 rd_zab_15_23 br) :: ll_zab_15_9
theorem lk_zab_15_23 {R : Type} : ∀ e ∈ ll_zab_15_23 (R := R), LoopTells Tryz.prog X115 M_zab L_zab e.2.1 (L_zab e.1) (bodyOf Tryz.prog e.1 e.2.2.1) e.2.2.2 := List.forall_mem_cons.2 ⟨lo_zab_15_23, lk_zab_15_9⟩
noncomputable def rd_zab_15_17 : List U → Rt
 | [.i v0, .i v1, .s v2, .s v3, .s v4, .i v5, .i v6, .l v7, .l v8, .b v9, .l v10, .l v11, .l v12, .l v13] =>
  (.test (decide (v1 < v0))
  (.test (inR v1 (ln v13))
  (.test (decide (Int.toNat v1 < List.length v13))
  (.test (decide (w64 (ln (cL (el v13 v1) 0) + ln v10) > (40 : Int)))
  (.stop 0 [.i ((100 : Int))])
  (let r0 : Rs := (Rt.res (m_zaa [U.l [[PV.lst 39 (cL (el v13 v1) 0)]]]))
  (.test (ok r0 0)
  (let r1 : Rs := (lres rd_zab_15_23 [U.i v0, U.i v1, U.l v10, U.i (ln v10), U.i (0 : Int), U.s v2, U.s v3, U.s v4, U.i v5, U.i v6, U.l v7, U.l v8, U.b v9, U.l v10, U.l v11, U.l v12, U.l (cL (el v13 v1) 0), U.i (cI (el v13 v1) 1), U.l (uL (out r0 0) 0), U.l v13])
  (.test (ok r1 0)
  (.stop 0 [.i (uI (out r1 0) 0)])
  (.test (ok r1 1)
  (.test (decide ((List.length (uL (out r1 1) 12) + 1) * 32 ≤ 140737488355328))
  (.next [.i (uI (out r1 1) 0), .i (w64 (uI (out r1 1) 1 + (1 : Int))), .s (uS (out r1 1) 2), .s (uS (out r1 1) 3), .s (uS (out r1 1) 4), .i (uI (out r1 1) 5), .i (uI (out r1 1) 6), .l (uL (out r1 1) 7), .l (uL (out r1 1) 8), .b (uB (out r1 1) 9), .l (uL (out r1 1) 10), .l (uL (out r1 1) 11), .l (uL (out r1 1) 12 ++ [[PV.lst 39 (uL (out r1 1) 13), pI (1 : Int)]]), .l (uL (out r1 1) 14)])
  .fail)
  .fail)))
  .fail)))
  .fail)
  .fail)
  (.stop 1 [.l v12]))
 | _ => .fail
def sp_zab_15_17 : LSp := ⟨110, ⟨[(2, .one (.ptr 0 0)), (8, .one (.mp 1)), (13, .one (.all 2)), (60, .one (.all 3)), (61, .one (.i .i64)), (62, .one (.i .i64))], [.box 28 [.one (.s), .one (.s), .one (.s), .one (.i .i64), .one (.i .i64), .one (.l 192), .one (.l 3), .one (.b), .one (.l 32)], .map 29 true, .arr 49 true, .arr 49 true]⟩, [(.ret, ⟨[(4, .one (.nils)), (5, .one (.i .i64))], []⟩), (.exit 2, ⟨[(13, .one (.all 0))], [.arr 49 true]⟩)]⟩
set_option maxRecDepth 100000 in
theorem rq_zab_15_17 (v0 v1 : Int) (v2 v3 v4 : ByteArray) (v5 v6 : Int) (v7 v8 : List (List PV)) (v9 : Bool) (v10 v11 v12 v13 : List (List PV)) : runK br Tryz.prog (callK br Tryz.prog X115 M_zab L_zab (lsT ll_zab_15_23) 40) M_zab (lsT ll_zab_15_23 15 0) 40 0 (L_zab 15) (bodyOf Tryz.prog 15 17) (sp_zab_15_17.s.ts sp_zab_15_17.n [.i v0, .i v1, .s v2, .s v3, .s v4, .i v5, .i v6, .l v7, .l v8, .b v9, .l v10, .l v11, .l v12, .l v13]) (sp_zab_15_17.s.h [.i v0, .i v1, .s v2, .s v3, .s v4, .i v5, .i v6, .l v7, .l v8, .b v9, .l v10, .l v11, .l v12, .l v13]) (idc Tryz.prog 0 (L_zab 15) 17) =
  (rd_zab_15_17 [.i v0, .i v1, .s v2, .s v3, .s v4, .i v5, .i v6, .l v7, .l v8, .b v9, .l v10, .l v11, .l v12, .l v13]).go br (fun us' => some (.normal, sp_zab_15_17.s.ts sp_zab_15_17.n us', sp_zab_15_17.s.h us')) sp_zab_15_17.fin := by
 rw [← callF_eq, ← runF_eq]; kernel_rfl
theorem lo_zab_15_17 {R : Type} : LoopTells Tryz.prog X115 M_zab L_zab 0 (L_zab 15) (bodyOf Tryz.prog 15 17) (gL (R := R) sp_zab_15_17 rd_zab_15_17 br) :=
 loopTold (callK_ev (loopsOK_list rids lk_zab_15_23) 40) (lsokIn (loopsOK_list rids lk_zab_15_23) 15 0 17) (by kernel_rfl) sp_zab_15_17 rd_zab_15_17 rfl (by kernel_rfl) (by
  intro us v h; unfold rd_zab_15_17 at h; split at h
  ·rename_i v0 v1 v2 v3 v4 v5 v6 v7 v8 v9 v10 v11 v12 v13; exact rq_zab_15_17 v0 v1 v2 v3 v4 v5 v6 v7 v8 v9 v10 v11 v12 v13
  ·cases h)
noncomputable abbrev ll_zab_15_17 {R : Type} : List (Nat × Nat × Nat × Smy R) := (15, 0, 17, gL sp_zab_15_17 rd_zab_15_17 br) :: ll_zab_15_23
theorem lk_zab_15_17 {R : Type} : ∀ e ∈ ll_zab_15_17 (R := R), LoopTells Tryz.prog X115 M_zab L_zab e.2.1 (L_zab e.1) (bodyOf Tryz.prog e.1 e.2.2.1) e.2.2.2 := List.forall_mem_cons.2 ⟨lo_zab_15_17, lk_zab_15_23⟩
def S_zab : FSp := ⟨[.agg [.s, .s, .s, .i .i64, .i .i64, .l 192, .l 3, .b, .l 32], .one (.l 49)], [], [99000000], [([.one (.all 0), .one (.i .i64)], [.arr 49 true])]⟩
noncomputable def m_zab : List U → Rt
 | [.s v0, .s v1, .s v2, .i v3, .i v4, .l v5, .l v6, .b v7, .l v8, .l v9] =>
  (let r0 : Rs := (Rt.res (m_zr [U.l v9]))
  (.test (ok r0 0)
  (.test (uI (out r0 0) 0 != (0 : Int))
  (.stop 0 [.i (uI (out r0 0) 0), .l []])
  (let r1 : Rs := (Rt.res (m_zv [U.s v0, U.s v1, U.s v2, U.i v3, U.i v4, U.l v5, U.l v6, U.b v7, U.l v8, U.l v9]))
  (.test (ok r1 0)
  (.test (!v7)
  (.stop 0 [.i ((0 : Int)), .l (uL (out r1 0) 0)])
  (let r2 : Rs := (lres rd_zab_15_9 [U.l v9, U.i (ln v9), U.i (0 : Int), U.s v0, U.s v1, U.s v2, U.i v3, U.i v4, U.l v5, U.l v6, U.b v7, U.l v8, U.l (uL (out r1 0) 0), U.l []])
  (.test (ok r2 0)
  (let r3 : Rs := (lres rd_zab_15_17 [U.i (ln (uL (out r2 0) 9)), U.i (0 : Int), U.s (uS (out r2 0) 0), U.s (uS (out r2 0) 1), U.s (uS (out r2 0) 2), U.i (uI (out r2 0) 3), U.i (uI (out r2 0) 4), U.l (uL (out r2 0) 5), U.l (uL (out r2 0) 6), U.b (uB (out r2 0) 7), U.l (uL (out r2 0) 8), U.l (uL (out r2 0) 10), U.l [], U.l (uL (out r2 0) 9)])
  (.test (ok r3 0)
  (.stop 0 [.i (uI (out r3 0) 0), .l []])
  (.test (ok r3 1)
  (.stop 0 [.i ((0 : Int)), .l (uL (out r3 1) 0)])
  .fail)))
  .fail)))
  .fail)))
  .fail))
 | _ => .fail
set_option maxRecDepth 100000 in
theorem q_zab (v0 v1 v2 : ByteArray) (v3 v4 : Int) (v5 v6 : List (List PV)) (v7 : Bool) (v8 v9 : List (List PV)) : callK br Tryz.prog X115 M_zab L_zab (lsT ll_zab_15_17) 60 15 (encs [.s v0, .s v1, .s v2, .i v3, .i v4, .l v5, .l v6, .b v7, .l v8, .l v9] 0 S_zab.ap) (encH [.s v0, .s v1, .s v2, .i v3, .i v4, .l v5, .l v6, .b v7, .l v8, .l v9] (ws S_zab.ap) S_zab.ah) (fun y => fixR Tryz.prog S_zab.plan S_zab.ah.length y) =
  (m_zab [.s v0, .s v1, .s v2, .i v3, .i v4, .l v5, .l v6, .b v7, .l v8, .l v9]).go br (fun _ => none) S_zab.fin := by
 rw [← callF_eq]; kernel_rfl
theorem e_zab : EOK Tryz.prog 15 (gF S_zab m_zab) :=
 eokTold mixed named x115 (loopsOK_list rids lk_zab_15_17) 60 S_zab m_zab (by
  intro us v h; unfold m_zab at h; split at h
  ·rename_i v0 v1 v2 v3 v4 v5 v6 v7 v8 v9; exact q_zab v0 v1 v2 v3 v4 v5 v6 v7 v8 v9
  ·cases h) false
noncomputable abbrev X116 : Ext := extT [(15, (gF S_zab m_zab))] X115
theorem x116 : XOK Tryz.prog X116 := xok1 x115 e_zab

/-- levee/regroup.key -/
def L_zac : FuncId → Nat → Option (List Nat) := liveT []
def M_zac : FuncId → Bool := fun _ => false
def S_zac : FSp := ⟨[.agg [.s, .s, .s, .i .i64, .i .i64, .l 192, .l 3, .b, .l 32], .one (.l 39)], [], [], [([.one (.s), .one (.b)], [])]⟩
noncomputable def m_zac : List U → Rt
 | [.s v0, .s v1, .s v2, .i v3, .i v4, .l v5, .l v6, .b v7, .l v8, .l v9] =>
  (let r0 : Rs := (Rt.res (m_zu [U.l v9, U.l v6]))
  (.test (ok r0 0)
  (let r1 : Rs := (Rt.res (m_zy [U.l (uL (out r0 0) 1)]))
  (.test (ok r1 0)
  (.stop 0 [.s (uS (out r1 0) 0), .b (uB (out r0 0) 0)])
  .fail))
  .fail))
 | _ => .fail
set_option maxRecDepth 100000 in
theorem q_zac (v0 v1 v2 : ByteArray) (v3 v4 : Int) (v5 v6 : List (List PV)) (v7 : Bool) (v8 v9 : List (List PV)) : callK br Tryz.prog X116 M_zac L_zac (lsT []) 60 79 (encs [.s v0, .s v1, .s v2, .i v3, .i v4, .l v5, .l v6, .b v7, .l v8, .l v9] 0 S_zac.ap) (encH [.s v0, .s v1, .s v2, .i v3, .i v4, .l v5, .l v6, .b v7, .l v8, .l v9] (ws S_zac.ap) S_zac.ah) (fun y => fixR Tryz.prog S_zac.plan S_zac.ah.length y) =
  (m_zac [.s v0, .s v1, .s v2, .i v3, .i v4, .l v5, .l v6, .b v7, .l v8, .l v9]).go br (fun _ => none) S_zac.fin := by
 rw [← callF_eq]; kernel_rfl
theorem e_zac : EOK Tryz.prog 79 (gF S_zac m_zac) :=
 eokTold mixed named x116 (loopsOK_list rids noneIn) 60 S_zac m_zac (by
  intro us v h; unfold m_zac at h; split at h
  ·rename_i v0 v1 v2 v3 v4 v5 v6 v7 v8 v9; exact q_zac v0 v1 v2 v3 v4 v5 v6 v7 v8 v9
  ·cases h) false
noncomputable abbrev X117 : Ext := extT [(79, (gF S_zac m_zac))] X116
theorem x117 : XOK Tryz.prog X117 := xok1 x116 e_zac

/-- levee/regroup.touched -/
def L_zad : FuncId → Nat → Option (List Nat) := liveT [(57, 3, [2, 5, 11, 12, 13]), (57, 1000003, [5]), (57, 2000003, [4])]
def M_zad : FuncId → Bool := fun _ => false
noncomputable def rd_zad_57_3 : List U → Rt
 | [.l v0, .i v1, .i v2, .s v3, .s v4, .s v5, .i v6, .i v7, .l v8, .l v9, .b v10, .l v11, .l v12] =>
  (.test (decide (v2 < v1))
  (.test (inR v2 (ln v0))
  (let r0 : Rs := (Rt.res (m_zac [U.s v3, U.s v4, U.s v5, U.i v6, U.i v7, U.l v8, U.l v9, U.b v10, U.l v11, U.l (cL (el v0 v2) 0)]))
  (.test (ok r0 0)
  (.test (uB (out r0 0) 1)
  (.next [.l v0, .i v1, .i (w64 (v2 + (1 : Int))), .s v3, .s v4, .s v5, .i v6, .i v7, .l v8, .l v9, .b v10, .l v11, .l (putM v12 (uS (out r0 0) 0) (pB true))])
  (.next [.l v0, .i v1, .i (w64 (v2 + (1 : Int))), .s v3, .s v4, .s v5, .i v6, .i v7, .l v8, .l v9, .b v10, .l v11, .l v12]))
  .fail))
  .fail)
  (.stop 0 [.l v12]))
 | _ => .fail
def sp_zad_57_3 : LSp := ⟨29, ⟨[(2, .one (.ptr 0 0)), (5, .one (.mp 1)), (11, .one (.l 49)), (12, .one (.i .i64)), (13, .one (.i .i64))], [.box 28 [.one (.s), .one (.s), .one (.s), .one (.i .i64), .one (.i .i64), .one (.l 192), .one (.l 3), .one (.b), .one (.l 32)], .map 4 false]⟩, [(.exit 0, ⟨[(5, .one (.mp 0))], [.map 4 false]⟩)]⟩
set_option maxRecDepth 100000 in
theorem rq_zad_57_3 (v0 : List (List PV)) (v1 v2 : Int) (v3 v4 v5 : ByteArray) (v6 v7 : Int) (v8 v9 : List (List PV)) (v10 : Bool) (v11 v12 : List (List PV)) : runK br Tryz.prog (callK br Tryz.prog X117 M_zad L_zad (lsT []) 40) M_zad (lsT [] 57 0) 40 0 (L_zad 57) (bodyOf Tryz.prog 57 3) (sp_zad_57_3.s.ts sp_zad_57_3.n [.l v0, .i v1, .i v2, .s v3, .s v4, .s v5, .i v6, .i v7, .l v8, .l v9, .b v10, .l v11, .l v12]) (sp_zad_57_3.s.h [.l v0, .i v1, .i v2, .s v3, .s v4, .s v5, .i v6, .i v7, .l v8, .l v9, .b v10, .l v11, .l v12]) (idc Tryz.prog 0 (L_zad 57) 3) =
  (rd_zad_57_3 [.l v0, .i v1, .i v2, .s v3, .s v4, .s v5, .i v6, .i v7, .l v8, .l v9, .b v10, .l v11, .l v12]).go br (fun us' => some (.normal, sp_zad_57_3.s.ts sp_zad_57_3.n us', sp_zad_57_3.s.h us')) sp_zad_57_3.fin := by
 rw [← callF_eq, ← runF_eq]; kernel_rfl
theorem lo_zad_57_3 {R : Type} : LoopTells Tryz.prog X117 M_zad L_zad 0 (L_zad 57) (bodyOf Tryz.prog 57 3) (gL (R := R) sp_zad_57_3 rd_zad_57_3 br) :=
 loopTold (callK_ev (loopsOK_list rids noneIn) 40) (lsokIn (loopsOK_list rids noneIn) 57 0 3) (by kernel_rfl) sp_zad_57_3 rd_zad_57_3 rfl (by kernel_rfl) (by
  intro us v h; unfold rd_zad_57_3 at h; split at h
  ·rename_i v0 v1 v2 v3 v4 v5 v6 v7 v8 v9 v10 v11 v12; exact rq_zad_57_3 v0 v1 v2 v3 v4 v5 v6 v7 v8 v9 v10 v11 v12
  ·cases h)
noncomputable abbrev ll_zad_57_3 {R : Type} : List (Nat × Nat × Nat × Smy R) := (57, 0, 3, gL sp_zad_57_3 rd_zad_57_3 br) :: []
theorem lk_zad_57_3 {R : Type} : ∀ e ∈ ll_zad_57_3 (R := R), LoopTells Tryz.prog X117 M_zad L_zad e.2.1 (L_zad e.1) (bodyOf Tryz.prog e.1 e.2.2.1) e.2.2.2 := List.forall_mem_cons.2 ⟨lo_zad_57_3, noneIn⟩
def S_zad : FSp := ⟨[.agg [.s, .s, .s, .i .i64, .i .i64, .l 192, .l 3, .b, .l 32], .one (.l 49)], [], [], [([.one (.mp 0)], [.map 4 false])]⟩
noncomputable def m_zad : List U → Rt
 | [.s v0, .s v1, .s v2, .i v3, .i v4, .l v5, .l v6, .b v7, .l v8, .l v9] =>
  (let r0 : Rs := (lres rd_zad_57_3 [U.l v9, U.i (ln v9), U.i (0 : Int), U.s v0, U.s v1, U.s v2, U.i v3, U.i v4, U.l v5, U.l v6, U.b v7, U.l v8, U.l []])
  (.test (ok r0 0)
  (.stop 0 [.l (uL (out r0 0) 0)])
  .fail))
 | _ => .fail
set_option maxRecDepth 100000 in
theorem q_zad (v0 v1 v2 : ByteArray) (v3 v4 : Int) (v5 v6 : List (List PV)) (v7 : Bool) (v8 v9 : List (List PV)) : callK br Tryz.prog X117 M_zad L_zad (lsT ll_zad_57_3) 60 57 (encs [.s v0, .s v1, .s v2, .i v3, .i v4, .l v5, .l v6, .b v7, .l v8, .l v9] 0 S_zad.ap) (encH [.s v0, .s v1, .s v2, .i v3, .i v4, .l v5, .l v6, .b v7, .l v8, .l v9] (ws S_zad.ap) S_zad.ah) (fun y => fixR Tryz.prog S_zad.plan S_zad.ah.length y) =
  (m_zad [.s v0, .s v1, .s v2, .i v3, .i v4, .l v5, .l v6, .b v7, .l v8, .l v9]).go br (fun _ => none) S_zad.fin := by
 rw [← callF_eq]; kernel_rfl
theorem e_zad : EOK Tryz.prog 57 (gF S_zad m_zad) :=
 eokTold mixed named x117 (loopsOK_list rids lk_zad_57_3) 60 S_zad m_zad (by
  intro us v h; unfold m_zad at h; split at h
  ·rename_i v0 v1 v2 v3 v4 v5 v6 v7 v8 v9; exact q_zad v0 v1 v2 v3 v4 v5 v6 v7 v8 v9
  ·cases h) false
noncomputable abbrev X118 : Ext := extT [(57, (gF S_zad m_zad))] X117
theorem x118 : XOK Tryz.prog X118 := xok1 x117 e_zad

/-- levee/bag.Neg -/
def L_zae : FuncId → Nat → Option (List Nat) := liveT [(60, 5, [3, 11, 12]), (60, 1000005, [3]), (60, 2000005, [2])]
def M_zae : FuncId → Bool := fun _ => false
noncomputable def rd_zae_60_5 : List U → Rt
 | [.i v0, .i v1, .l v2] =>
  (.test (decide (v1 < v0))
  (.test (inR v1 (ln v2))
  (.test (decide (Int.toNat v1 < List.length v2))
  (.test (inR v1 (ln v2))
  (.test (decide (Int.toNat v1 < List.length v2))
  (.next [.i v0, .i (w64 (v1 + (1 : Int))), .l (List.set v2 (Int.toNat v1) (setCells (el v2 v1) 1 [pI (w64 ((0 : Int) - cI (el v2 v1) 1))]))])
  .fail)
  .fail)
  .fail)
  .fail)
  (.stop 0 [.l v2]))
 | _ => .fail
def sp_zae_60_5 : LSp := ⟨27, ⟨[(3, .one (.all 0)), (11, .one (.i .i64)), (12, .one (.i .i64))], [.arr 49 true]⟩, [(.exit 0, ⟨[(3, .one (.all 0))], [.arr 49 true]⟩)]⟩
set_option maxRecDepth 100000 in
theorem rq_zae_60_5 (v0 v1 : Int) (v2 : List (List PV)) : runK br Tryz.prog (callK br Tryz.prog X118 M_zae L_zae (lsT []) 40) M_zae (lsT [] 60 0) 40 0 (L_zae 60) (bodyOf Tryz.prog 60 5) (sp_zae_60_5.s.ts sp_zae_60_5.n [.i v0, .i v1, .l v2]) (sp_zae_60_5.s.h [.i v0, .i v1, .l v2]) (idc Tryz.prog 0 (L_zae 60) 5) =
  (rd_zae_60_5 [.i v0, .i v1, .l v2]).go br (fun us' => some (.normal, sp_zae_60_5.s.ts sp_zae_60_5.n us', sp_zae_60_5.s.h us')) sp_zae_60_5.fin := by
 rw [← callF_eq, ← runF_eq]; kernel_rfl
theorem lo_zae_60_5 {R : Type} : LoopTells Tryz.prog X118 M_zae L_zae 0 (L_zae 60) (bodyOf Tryz.prog 60 5) (gL (R := R) sp_zae_60_5 rd_zae_60_5 br) :=
 loopTold (callK_ev (loopsOK_list rids noneIn) 40) (lsokIn (loopsOK_list rids noneIn) 60 0 5) (by kernel_rfl) sp_zae_60_5 rd_zae_60_5 rfl (by kernel_rfl) (by
  intro us v h; unfold rd_zae_60_5 at h; split at h
  ·rename_i v0 v1 v2; exact rq_zae_60_5 v0 v1 v2
  ·cases h)
noncomputable abbrev ll_zae_60_5 {R : Type} : List (Nat × Nat × Nat × Smy R) := (60, 0, 5, gL sp_zae_60_5 rd_zae_60_5 br) :: []
theorem lk_zae_60_5 {R : Type} : ∀ e ∈ ll_zae_60_5 (R := R), LoopTells Tryz.prog X118 M_zae L_zae e.2.1 (L_zae e.1) (bodyOf Tryz.prog e.1 e.2.2.1) e.2.2.2 := List.forall_mem_cons.2 ⟨lo_zae_60_5, noneIn⟩
def S_zae : FSp := ⟨[.one (.l 49)], [], [99000000], [([.one (.all 0)], [.arr 49 true])]⟩
noncomputable def m_zae : List U → Rt
 | [.l v0] =>
  (let r0 : Rs := (Rt.res (m_zq [U.l v0]))
  (.test (ok r0 0)
  (.test (!uB (out r0 0) 0)
  (.stop 0 [.l []])
  (let r1 : Rs := (Rt.res (m_zm [U.l v0]))
  (.test (ok r1 0)
  (let r2 : Rs := (lres rd_zae_60_5 [U.i (ln (uL (out r1 0) 0)), U.i (0 : Int), U.l (uL (out r1 0) 0)])
  (.test (ok r2 0)
  (.stop 0 [.l (uL (out r2 0) 0)])
  .fail))
  .fail)))
  .fail))
 | _ => .fail
set_option maxRecDepth 100000 in
theorem q_zae (v0 : List (List PV)) : callK br Tryz.prog X118 M_zae L_zae (lsT ll_zae_60_5) 60 60 (encs [.l v0] 0 S_zae.ap) (encH [.l v0] (ws S_zae.ap) S_zae.ah) (fun y => fixR Tryz.prog S_zae.plan S_zae.ah.length y) =
  (m_zae [.l v0]).go br (fun _ => none) S_zae.fin := by
 rw [← callF_eq]; kernel_rfl
theorem e_zae : EOK Tryz.prog 60 (gF S_zae m_zae) :=
 eokTold mixed named x118 (loopsOK_list rids lk_zae_60_5) 60 S_zae m_zae (by
  intro us v h; unfold m_zae at h; split at h
  ·rename_i v0; exact q_zae v0
  ·cases h) false
noncomputable abbrev X119 : Ext := extT [(60, (gF S_zae m_zae))] X118
theorem x119 : XOK Tryz.prog X119 := xok1 x118 e_zae

/-- levee/bag.Plus -/
def L_zaf : FuncId → Nat → Option (List Nat) := liveT [(59, 3, [99000003, 7, 8, 9]), (59, 1000003, [3]), (59, 2000003, [2]), (97, 2, [0, 1, 7, 8]), (97, 1000002, []), (97, 2000002, [4])]
def M_zaf : FuncId → Bool := fun _ => false
noncomputable def rd_zaf_59_3 : List U → Rt
 | [.l v0, .i v1, .i v2, .l v3] =>
  (.test (decide (v2 < v1))
  (.test (inR v2 (ln v0))
  (let r0 : Rs := (Rt.res (m_zq [U.l (cL (el v0 v2) 0)]))
  (.test (ok r0 0)
  (.test (!uB (out r0 0) 0)
  (.stop 0 [])
  (.test (decide ((List.length v3 + List.length (cL (el v0 v2) 0)) * 32 ≤ 140737488355328))
  (.next [.l v0, .i v1, .i (w64 (v2 + (1 : Int))), .l (v3 ++ cL (el v0 v2) 0)])
  .fail))
  .fail))
  .fail)
  (.stop 1 [.l v3]))
 | _ => .fail
def sp_zaf_59_3 : LSp := ⟨25, ⟨[(3, .one (.all 0)), (7, .one (.l 30)), (8, .one (.i .i64)), (9, .one (.i .i64))], [.arr 49 true]⟩, [(.ret, ⟨[(2, .one (.nils))], []⟩), (.exit 0, ⟨[(3, .one (.all 0))], [.arr 49 true]⟩)]⟩
set_option maxRecDepth 100000 in
theorem rq_zaf_59_3 (v0 : List (List PV)) (v1 v2 : Int) (v3 : List (List PV)) : runK br Tryz.prog (callK br Tryz.prog X119 M_zaf L_zaf (lsT []) 40) M_zaf (lsT [] 59 0) 40 0 (L_zaf 59) (bodyOf Tryz.prog 59 3) (sp_zaf_59_3.s.ts sp_zaf_59_3.n [.l v0, .i v1, .i v2, .l v3]) (sp_zaf_59_3.s.h [.l v0, .i v1, .i v2, .l v3]) (idc Tryz.prog 0 (L_zaf 59) 3) =
  (rd_zaf_59_3 [.l v0, .i v1, .i v2, .l v3]).go br (fun us' => some (.normal, sp_zaf_59_3.s.ts sp_zaf_59_3.n us', sp_zaf_59_3.s.h us')) sp_zaf_59_3.fin := by
 rw [← callF_eq, ← runF_eq]; kernel_rfl
theorem lo_zaf_59_3 {R : Type} : LoopTells Tryz.prog X119 M_zaf L_zaf 0 (L_zaf 59) (bodyOf Tryz.prog 59 3) (gL (R := R) sp_zaf_59_3 rd_zaf_59_3 br) :=
 loopTold (callK_ev (loopsOK_list rids noneIn) 40) (lsokIn (loopsOK_list rids noneIn) 59 0 3) (by kernel_rfl) sp_zaf_59_3 rd_zaf_59_3 rfl (by kernel_rfl) (by
  intro us v h; unfold rd_zaf_59_3 at h; split at h
  ·rename_i v0 v1 v2 v3; exact rq_zaf_59_3 v0 v1 v2 v3
  ·cases h)
noncomputable abbrev ll_zaf_59_3 {R : Type} : List (Nat × Nat × Nat × Smy R) := (59, 0, 3, gL sp_zaf_59_3 rd_zaf_59_3 br) :: []
theorem lk_zaf_59_3 {R : Type} : ∀ e ∈ ll_zaf_59_3 (R := R), LoopTells Tryz.prog X119 M_zaf L_zaf e.2.1 (L_zaf e.1) (bodyOf Tryz.prog e.1 e.2.2.1) e.2.2.2 := List.forall_mem_cons.2 ⟨lo_zaf_59_3, noneIn⟩
noncomputable def rd_zaf_97_2 : List U → Rt
 | [.l v0, .i v1, .i v2] =>
  (.test (decide (v2 < v1))
  (.test (inR v2 (ln v0))
  (let r0 : Rs := (Rt.res (m_zn [U.i (cI (el v0 v2) 1)]))
  (.test (ok r0 0)
  (.test (!uB (out r0 0) 0)
  (.stop 0 [.i v2])
  (.next [.l v0, .i v1, .i (w64 (v2 + (1 : Int)))]))
  .fail))
  .fail)
  (.stop 1 []))
 | _ => .fail
def sp_zaf_97_2 : LSp := ⟨19, ⟨[(0, .one (.l 49)), (1, .fn 81 []), (7, .one (.i .i64)), (8, .one (.i .i64))], []⟩, [(.ret, ⟨[(4, .one (.i .i64))], []⟩), (.exit 0, ⟨[], []⟩)]⟩
set_option maxRecDepth 100000 in
theorem rq_zaf_97_2 (v0 : List (List PV)) (v1 v2 : Int) : runK br Tryz.prog (callK br Tryz.prog X119 M_zaf L_zaf (lsT ll_zaf_59_3) 40) M_zaf (lsT ll_zaf_59_3 97 0) 40 0 (L_zaf 97) (bodyOf Tryz.prog 97 2) (sp_zaf_97_2.s.ts sp_zaf_97_2.n [.l v0, .i v1, .i v2]) (sp_zaf_97_2.s.h [.l v0, .i v1, .i v2]) (idc Tryz.prog 0 (L_zaf 97) 2) =
  (rd_zaf_97_2 [.l v0, .i v1, .i v2]).go br (fun us' => some (.normal, sp_zaf_97_2.s.ts sp_zaf_97_2.n us', sp_zaf_97_2.s.h us')) sp_zaf_97_2.fin := by
 rw [← callF_eq, ← runF_eq]; kernel_rfl
theorem lo_zaf_97_2 {R : Type} : LoopTells Tryz.prog X119 M_zaf L_zaf 0 (L_zaf 97) (bodyOf Tryz.prog 97 2) (gL (R := R) sp_zaf_97_2 rd_zaf_97_2 br) :=
 loopTold (callK_ev (loopsOK_list rids lk_zaf_59_3) 40) (lsokIn (loopsOK_list rids lk_zaf_59_3) 97 0 2) (by kernel_rfl) sp_zaf_97_2 rd_zaf_97_2 rfl (by kernel_rfl) (by
  intro us v h; unfold rd_zaf_97_2 at h; split at h
  ·rename_i v0 v1 v2; exact rq_zaf_97_2 v0 v1 v2
  ·cases h)
noncomputable abbrev ll_zaf_97_2 {R : Type} : List (Nat × Nat × Nat × Smy R) := (97, 0, 2, gL sp_zaf_97_2 rd_zaf_97_2 br) :: ll_zaf_59_3
theorem lk_zaf_97_2 {R : Type} : ∀ e ∈ ll_zaf_97_2 (R := R), LoopTells Tryz.prog X119 M_zaf L_zaf e.2.1 (L_zaf e.1) (bodyOf Tryz.prog e.1 e.2.2.1) e.2.2.2 := List.forall_mem_cons.2 ⟨lo_zaf_97_2, lk_zaf_59_3⟩
def S_zaf : FSp := ⟨[.one (.l 30)], [], [99000000], [([.one (.all 0)], [.arr 49 true])]⟩
noncomputable def m_zaf : List U → Rt
 | [.l v0] =>
  (let r0 : Rs := (lres rd_zaf_59_3 [U.l v0, U.i (ln v0), U.i (0 : Int), U.l []])
  (.test (ok r0 0)
  (.stop 0 [.l []])
  (.test (ok r0 1)
  (let r1 : Rs := (Rt.res (m_zm [U.l (uL (out r0 1) 0)]))
  (.test (ok r1 0)
  (let r2 : Rs := (lres rd_zaf_97_2 [U.l (uL (out r1 0) 0), U.i (ln (uL (out r1 0) 0)), U.i (0 : Int)])
  (.test (ok r2 0)
  (.test (decide (uI (out r2 0) 0 ≥ (0 : Int)))
  (.stop 0 [.l []])
  (.stop 0 [.l (uL (out r1 0) 0)]))
  (.test (ok r2 1)
  (.stop 0 [.l (uL (out r1 0) 0)])
  .fail)))
  .fail))
  .fail)))
 | _ => .fail
set_option maxRecDepth 100000 in
theorem q_zaf (v0 : List (List PV)) : callK br Tryz.prog X119 M_zaf L_zaf (lsT ll_zaf_97_2) 60 59 (encs [.l v0] 0 S_zaf.ap) (encH [.l v0] (ws S_zaf.ap) S_zaf.ah) (fun y => fixR Tryz.prog S_zaf.plan S_zaf.ah.length y) =
  (m_zaf [.l v0]).go br (fun _ => none) S_zaf.fin := by
 rw [← callF_eq]; kernel_rfl
theorem e_zaf : EOK Tryz.prog 59 (gF S_zaf m_zaf) :=
 eokTold mixed named x119 (loopsOK_list rids lk_zaf_97_2) 60 S_zaf m_zaf (by
  intro us v h; unfold m_zaf at h; split at h
  ·rename_i v0; exact q_zaf v0
  ·cases h) false
noncomputable abbrev X120 : Ext := extT [(59, (gF S_zaf m_zaf))] X119
theorem x120 : XOK Tryz.prog X120 := xok1 x119 e_zaf

/-- levee/regroup.Rows -/
def L_zag : FuncId → Nat → Option (List Nat) := liveT [(58, 3, [499999000000, 4, 99000007, 12, 13, 14]), (58, 1000003, [7]), (58, 2000003, [6])]
def M_zag : FuncId → Bool := fun _ => false
noncomputable def rd_zag_58_3 : List U → Rt
 | [.l v0, .i v1, .i v2, .l v3, .s v4, .s v5, .s v6, .i v7, .i v8, .l v9, .l v10, .b v11, .l v12, .l v13] =>
  (.test (decide (v2 < v1))
  (.test (inR v2 (ln v0))
  (let r0 : Rs := (Rt.res (m_zac [U.s v4, U.s v5, U.s v6, U.i v7, U.i v8, U.l v9, U.l v10, U.b v11, U.l v12, U.l (cL (el v0 v2) 0)]))
  (.test (ok r0 0)
  (.test (uB (out r0 0) 1)
  (.test (lkB v3 (uS (out r0 0) 0))
  (.test (decide ((List.length v13 + 1) * 32 ≤ 140737488355328))
  (.next [.l v0, .i v1, .i (w64 (v2 + (1 : Int))), .l v3, .s v4, .s v5, .s v6, .i v7, .i v8, .l v9, .l v10, .b v11, .l v12, .l (v13 ++ [[PV.lst 39 (cL (el v0 v2) 0), pI (cI (el v0 v2) 1)]])])
  .fail)
  (.next [.l v0, .i v1, .i (w64 (v2 + (1 : Int))), .l v3, .s v4, .s v5, .s v6, .i v7, .i v8, .l v9, .l v10, .b v11, .l v12, .l v13]))
  (.next [.l v0, .i v1, .i (w64 (v2 + (1 : Int))), .l v3, .s v4, .s v5, .s v6, .i v7, .i v8, .l v9, .l v10, .b v11, .l v12, .l v13]))
  .fail))
  .fail)
  (.stop 0 [.l v3, .l v13]))
 | _ => .fail
def sp_zag_58_3 : LSp := ⟨37, ⟨[(0, .one (.mp 0)), (4, .one (.ptr 1 0)), (7, .one (.all 2)), (12, .one (.l 49)), (13, .one (.i .i64)), (14, .one (.i .i64))], [.map 4 true, .box 28 [.one (.s), .one (.s), .one (.s), .one (.i .i64), .one (.i .i64), .one (.l 192), .one (.l 3), .one (.b), .one (.l 32)], .arr 49 true]⟩, [(.exit 0, ⟨[(7, .one (.all 1))], [.map 4 true, .arr 49 true]⟩)]⟩
set_option maxRecDepth 100000 in
theorem rq_zag_58_3 (v0 : List (List PV)) (v1 v2 : Int) (v3 : List (List PV)) (v4 v5 v6 : ByteArray) (v7 v8 : Int) (v9 v10 : List (List PV)) (v11 : Bool) (v12 v13 : List (List PV)) : runK br Tryz.prog (callK br Tryz.prog X120 M_zag L_zag (lsT []) 40) M_zag (lsT [] 58 1) 40 1 (L_zag 58) (bodyOf Tryz.prog 58 3) (sp_zag_58_3.s.ts sp_zag_58_3.n [.l v0, .i v1, .i v2, .l v3, .s v4, .s v5, .s v6, .i v7, .i v8, .l v9, .l v10, .b v11, .l v12, .l v13]) (sp_zag_58_3.s.h [.l v0, .i v1, .i v2, .l v3, .s v4, .s v5, .s v6, .i v7, .i v8, .l v9, .l v10, .b v11, .l v12, .l v13]) (idc Tryz.prog 1 (L_zag 58) 3) =
  (rd_zag_58_3 [.l v0, .i v1, .i v2, .l v3, .s v4, .s v5, .s v6, .i v7, .i v8, .l v9, .l v10, .b v11, .l v12, .l v13]).go br (fun us' => some (.normal, sp_zag_58_3.s.ts sp_zag_58_3.n us', sp_zag_58_3.s.h us')) sp_zag_58_3.fin := by
 rw [← callF_eq, ← runF_eq]; kernel_rfl
theorem lo_zag_58_3 {R : Type} : LoopTells Tryz.prog X120 M_zag L_zag 1 (L_zag 58) (bodyOf Tryz.prog 58 3) (gL (R := R) sp_zag_58_3 rd_zag_58_3 br) :=
 loopTold (callK_ev (loopsOK_list rids noneIn) 40) (lsokIn (loopsOK_list rids noneIn) 58 1 3) (by kernel_rfl) sp_zag_58_3 rd_zag_58_3 rfl (by kernel_rfl) (by
  intro us v h; unfold rd_zag_58_3 at h; split at h
  ·rename_i v0 v1 v2 v3 v4 v5 v6 v7 v8 v9 v10 v11 v12 v13; exact rq_zag_58_3 v0 v1 v2 v3 v4 v5 v6 v7 v8 v9 v10 v11 v12 v13
  ·cases h)
noncomputable abbrev ll_zag_58_3 {R : Type} : List (Nat × Nat × Nat × Smy R) := (58, 1, 3, gL sp_zag_58_3 rd_zag_58_3 br) :: []
theorem lk_zag_58_3 {R : Type} : ∀ e ∈ ll_zag_58_3 (R := R), LoopTells Tryz.prog X120 M_zag L_zag e.2.1 (L_zag e.1) (bodyOf Tryz.prog e.1 e.2.2.1) e.2.2.2 := List.forall_mem_cons.2 ⟨lo_zag_58_3, noneIn⟩
def S_zag : FSp := ⟨[.agg [.s, .s, .s, .i .i64, .i .i64, .l 192, .l 3, .b, .l 32], .one (.l 49), .one (.l 49)], [], [99000000], [([.one (.all 0), .one (.i .i64)], [.arr 49 true])]⟩
noncomputable def m_zag : List U → Rt
 | [.s v0, .s v1, .s v2, .i v3, .i v4, .l v5, .l v6, .b v7, .l v8, .l v9, .l v10] =>
  (let r0 : Rs := (Rt.res (m_zq [U.l v9]))
  (.test (ok r0 0)
  (.test (!uB (out r0 0) 0)
  (.stop 0 [.i ((1 : Int)), .l []])
  (let r1 : Rs := (Rt.res (m_zq [U.l v10]))
  (.test (ok r1 0)
  (.test (!uB (out r1 0) 0)
  (.stop 0 [.i ((1 : Int)), .l []])
  (.test (decide ((0 + List.length v9) * 32 ≤ 140737488355328))
  (.test (decide ((List.length v9 + List.length v10) * 32 ≤ 140737488355328))
  (let r2 : Rs := (Rt.res (m_zm [U.l (v9 ++ v10)]))
  (.test (ok r2 0)
  (let r3 : Rs := (Rt.res (m_zq [U.l (uL (out r2 0) 0)]))
  (.test (ok r3 0)
  (.test (!uB (out r3 0) 0)
  (.stop 0 [.i ((1 : Int)), .l []])
  (.test (!v7)
  (let r4 : Rs := (Rt.res (m_zv [U.s v0, U.s v1, U.s v2, U.i v3, U.i v4, U.l v5, U.l v6, U.b v7, U.l v8, U.l v10]))
  (.test (ok r4 0)
  (.stop 0 [.i ((0 : Int)), .l (uL (out r4 0) 0)])
  .fail))
  (let r5 : Rs := (Rt.res (m_zad [U.s v0, U.s v1, U.s v2, U.i v3, U.i v4, U.l v5, U.l v6, U.b v7, U.l v8, U.l v10]))
  (.test (ok r5 0)
  (let r6 : Rs := (lres rd_zag_58_3 [U.l (uL (out r2 0) 0), U.i (ln (uL (out r2 0) 0)), U.i (0 : Int), U.l (uL (out r5 0) 0), U.s v0, U.s v1, U.s v2, U.i v3, U.i v4, U.l v5, U.l v6, U.b v7, U.l v8, U.l []])
  (.test (ok r6 0)
  (let r7 : Rs := (Rt.res (m_zab [U.s v0, U.s v1, U.s v2, U.i v3, U.i v4, U.l v5, U.l v6, U.b v7, U.l v8, U.l (uL (out r6 0) 1)]))
  (.test (ok r7 0)
  (.test (uI (out r7 0) 0 != (0 : Int))
  (.stop 0 [.i (uI (out r7 0) 0), .l []])
  (let r8 : Rs := (lres rd_zag_58_3 [U.l v9, U.i (ln v9), U.i (0 : Int), U.l (uL (out r6 0) 0), U.s v0, U.s v1, U.s v2, U.i v3, U.i v4, U.l v5, U.l v6, U.b v7, U.l v8, U.l []])
  (.test (ok r8 0)
  (let r9 : Rs := (Rt.res (m_zab [U.s v0, U.s v1, U.s v2, U.i v3, U.i v4, U.l v5, U.l v6, U.b v7, U.l v8, U.l (uL (out r8 0) 1)]))
  (.test (ok r9 0)
  (.test (uI (out r9 0) 0 != (0 : Int))
  (.stop 0 [.i (uI (out r9 0) 0), .l []])
  (let r10 : Rs := (Rt.res (m_zae [U.l (uL (out r9 0) 1)]))
  (.test (ok r10 0)
  (let r11 : Rs := (Rt.res (m_zaf [U.l [[PV.lst 49 (uL (out r7 0) 1)], [PV.lst 49 (uL (out r10 0) 0)]]]))
  (.test (ok r11 0)
  (.stop 0 [.i ((0 : Int)), .l (uL (out r11 0) 0)])
  .fail))
  .fail)))
  .fail))
  .fail)))
  .fail))
  .fail))
  .fail))))
  .fail))
  .fail))
  .fail)
  .fail))
  .fail)))
  .fail))
 | _ => .fail
set_option maxRecDepth 100000 in
theorem q_zag (v0 v1 v2 : ByteArray) (v3 v4 : Int) (v5 v6 : List (List PV)) (v7 : Bool) (v8 v9 v10 : List (List PV)) : callK br Tryz.prog X120 M_zag L_zag (lsT ll_zag_58_3) 60 29 (encs [.s v0, .s v1, .s v2, .i v3, .i v4, .l v5, .l v6, .b v7, .l v8, .l v9, .l v10] 0 S_zag.ap) (encH [.s v0, .s v1, .s v2, .i v3, .i v4, .l v5, .l v6, .b v7, .l v8, .l v9, .l v10] (ws S_zag.ap) S_zag.ah) (fun y => fixR Tryz.prog S_zag.plan S_zag.ah.length y) =
  (m_zag [.s v0, .s v1, .s v2, .i v3, .i v4, .l v5, .l v6, .b v7, .l v8, .l v9, .l v10]).go br (fun _ => none) S_zag.fin := by
 rw [← callF_eq]; kernel_rfl
theorem e_zag : EOK Tryz.prog 29 (gF S_zag m_zag) :=
 eokTold mixed named x120 (loopsOK_list rids lk_zag_58_3) 60 S_zag m_zag (by
  intro us v h; unfold m_zag at h; split at h
  ·rename_i v0 v1 v2 v3 v4 v5 v6 v7 v8 v9 v10; exact q_zag v0 v1 v2 v3 v4 v5 v6 v7 v8 v9 v10
  ·cases h) false
noncomputable abbrev X121 : Ext := extT [(29, (gF S_zag m_zag))] X120
theorem x121 : XOK Tryz.prog X121 := xok1 x120 e_zag

/-- levee/leveeref01.May -/
def L_zai : FuncId → Nat → Option (List Nat) := liveT []
def M_zai : FuncId → Bool := fun _ => false
def S_zai : FSp := ⟨[.agg [.i .i64, .i .i64, .s]], [], [], [([.one (.b)], [])]⟩
noncomputable def m_zai : List U → Rt
 | [.i v0, .i v1, .s v2] =>
  (.test (v0 == (0 : Int))
  (.test (ByteArray.toList v2 == [])
  (.test (decide (v1 ≥ (0 : Int)))
  (.stop 0 [.b (decide (v1 ≤ v0))])
  (.stop 0 [.b false]))
  (.stop 0 [.b false]))
  (.test (v0 == (1 : Int))
  (.test (ByteArray.toList v2 == [])
  (.test (decide (v1 ≥ (0 : Int)))
  (.stop 0 [.b (decide (v1 ≤ v0))])
  (.stop 0 [.b false]))
  (.stop 0 [.b false]))
  (.test (v0 == (2 : Int))
  (.stop 0 [.b (ByteArray.toList v2 == [])])
  (.test (v0 == (3 : Int))
  (.test (v1 == (0 : Int))
  (.stop 0 [.b (decide ((↑(ByteArray.size v2) : Int) ≤ (1000 : Int)))])
  (.stop 0 [.b false]))
  (.stop 0 [.b false])))))
 | _ => .fail
set_option maxRecDepth 100000 in
theorem q_zai (v0 v1 : Int) (v2 : ByteArray) : callK br Tryz.prog X121 M_zai L_zai (lsT []) 60 98 (encs [.i v0, .i v1, .s v2] 0 S_zai.ap) (encH [.i v0, .i v1, .s v2] (ws S_zai.ap) S_zai.ah) (fun y => fixR Tryz.prog S_zai.plan S_zai.ah.length y) =
  (m_zai [.i v0, .i v1, .s v2]).go br (fun _ => none) S_zai.fin := by
 rw [← callF_eq]; kernel_rfl
theorem e_zai : EOK Tryz.prog 98 (gF S_zai m_zai) :=
 eokTold mixed named x121 (loopsOK_list rids noneIn) 60 S_zai m_zai (by
  intro us v h; unfold m_zai at h; split at h
  ·rename_i v0 v1 v2; exact q_zai v0 v1 v2
  ·cases h) false
noncomputable abbrev X123 : Ext := extT [(98, (gF S_zai m_zai))] X121
theorem x123 : XOK Tryz.prog X123 := xok1 x121 e_zai

/-- levee/leveeref02.May -/
def L_zaj : FuncId → Nat → Option (List Nat) := liveT [(82, 2, [0, 3]), (82, 1000002, []), (82, 2000002, [2])]
def M_zaj : FuncId → Bool := fun _ => false
noncomputable def rd_zaj_82_2 : List U → Rt
 | [.l v0, .i v1] =>
  (.test (decide (v1 < ln v0))
  (.test (inR v1 (ln v0))
  (let r0 : Rs := (Rt.res (m_zai [U.i (cI (el v0 v1) 0), U.i (cI (el v0 v1) 1), U.s (cS (el v0 v1) 2)]))
  (.test (ok r0 0)
  (.test (!uB (out r0 0) 0)
  (.stop 0 [.b false])
  (.next [.l v0, .i (w64 (v1 + (1 : Int)))]))
  .fail))
  .fail)
  (.stop 1 []))
 | _ => .fail
def sp_zaj_82_2 : LSp := ⟨16, ⟨[(0, .one (.l 39)), (3, .one (.i .i64))], []⟩, [(.ret, ⟨[(2, .one (.b))], []⟩), (.exit 0, ⟨[], []⟩)]⟩
set_option maxRecDepth 100000 in
theorem rq_zaj_82_2 (v0 : List (List PV)) (v1 : Int) : runK br Tryz.prog (callK br Tryz.prog X123 M_zaj L_zaj (lsT []) 40) M_zaj (lsT [] 82 0) 40 0 (L_zaj 82) (bodyOf Tryz.prog 82 2) (sp_zaj_82_2.s.ts sp_zaj_82_2.n [.l v0, .i v1]) (sp_zaj_82_2.s.h [.l v0, .i v1]) (idc Tryz.prog 0 (L_zaj 82) 2) =
  (rd_zaj_82_2 [.l v0, .i v1]).go br (fun us' => some (.normal, sp_zaj_82_2.s.ts sp_zaj_82_2.n us', sp_zaj_82_2.s.h us')) sp_zaj_82_2.fin := by
 rw [← callF_eq, ← runF_eq]; kernel_rfl
theorem lo_zaj_82_2 {R : Type} : LoopTells Tryz.prog X123 M_zaj L_zaj 0 (L_zaj 82) (bodyOf Tryz.prog 82 2) (gL (R := R) sp_zaj_82_2 rd_zaj_82_2 br) :=
 loopTold (callK_ev (loopsOK_list rids noneIn) 40) (lsokIn (loopsOK_list rids noneIn) 82 0 2) (by kernel_rfl) sp_zaj_82_2 rd_zaj_82_2 rfl (by kernel_rfl) (by
  intro us v h; unfold rd_zaj_82_2 at h; split at h
  ·rename_i v0 v1; exact rq_zaj_82_2 v0 v1
  ·cases h)
noncomputable abbrev ll_zaj_82_2 {R : Type} : List (Nat × Nat × Nat × Smy R) := (82, 0, 2, gL sp_zaj_82_2 rd_zaj_82_2 br) :: []
theorem lk_zaj_82_2 {R : Type} : ∀ e ∈ ll_zaj_82_2 (R := R), LoopTells Tryz.prog X123 M_zaj L_zaj e.2.1 (L_zaj e.1) (bodyOf Tryz.prog e.1 e.2.2.1) e.2.2.2 := List.forall_mem_cons.2 ⟨lo_zaj_82_2, noneIn⟩
def S_zaj : FSp := ⟨[.one (.l 39)], [], [], [([.one (.b)], [])]⟩
noncomputable def m_zaj : List U → Rt
 | [.l v0] =>
  (let r0 : Rs := (lres rd_zaj_82_2 [U.l v0, U.i (0 : Int)])
  (.test (ok r0 0)
  (.stop 0 [.b (uB (out r0 0) 0)])
  (.test (ok r0 1)
  (.stop 0 [.b true])
  .fail)))
 | _ => .fail
set_option maxRecDepth 100000 in
theorem q_zaj (v0 : List (List PV)) : callK br Tryz.prog X123 M_zaj L_zaj (lsT ll_zaj_82_2) 60 82 (encs [.l v0] 0 S_zaj.ap) (encH [.l v0] (ws S_zaj.ap) S_zaj.ah) (fun y => fixR Tryz.prog S_zaj.plan S_zaj.ah.length y) =
  (m_zaj [.l v0]).go br (fun _ => none) S_zaj.fin := by
 rw [← callF_eq]; kernel_rfl
theorem e_zaj : EOK Tryz.prog 82 (gF S_zaj m_zaj) :=
 eokTold mixed named x123 (loopsOK_list rids lk_zaj_82_2) 60 S_zaj m_zaj (by
  intro us v h; unfold m_zaj at h; split at h
  ·rename_i v0; exact q_zaj v0
  ·cases h) false
noncomputable abbrev X124 : Ext := extT [(82, (gF S_zaj m_zaj))] X123
theorem x124 : XOK Tryz.prog X124 := xok1 x123 e_zaj

/-- levee/leveeref04.May -/
def L_zak : FuncId → Nat → Option (List Nat) := liveT []
def M_zak : FuncId → Bool := fun _ => false
def S_zak : FSp := ⟨[.one (.l 39)], [], [], [([.one (.b)], [])]⟩
noncomputable def m_zak : List U → Rt
 | [.l v0] =>
  (.test (decide (ln v0 ≤ (40 : Int)))
  (let r0 : Rs := (Rt.res (m_zaj [U.l v0]))
  (.test (ok r0 0)
  (.stop 0 [.b (uB (out r0 0) 0)])
  .fail))
  (.stop 0 [.b false]))
 | _ => .fail
set_option maxRecDepth 100000 in
theorem q_zak (v0 : List (List PV)) : callK br Tryz.prog X124 M_zak L_zak (lsT []) 60 63 (encs [.l v0] 0 S_zak.ap) (encH [.l v0] (ws S_zak.ap) S_zak.ah) (fun y => fixR Tryz.prog S_zak.plan S_zak.ah.length y) =
  (m_zak [.l v0]).go br (fun _ => none) S_zak.fin := by
 rw [← callF_eq]; kernel_rfl
theorem e_zak : EOK Tryz.prog 63 (gF S_zak m_zak) :=
 eokTold mixed named x124 (loopsOK_list rids noneIn) 60 S_zak m_zak (by
  intro us v h; unfold m_zak at h; split at h
  ·rename_i v0; exact q_zak v0
  ·cases h) false
noncomputable abbrev X125 : Ext := extT [(63, (gF S_zak m_zak))] X124
theorem x125 : XOK Tryz.prog X125 := xok1 x124 e_zak

/-- levee/leveeref01.Compare -/
def L_zal : FuncId → Nat → Option (List Nat) := liveT []
def M_zal : FuncId → Bool := fun _ => false
def S_zal : FSp := ⟨[.agg [.i .i64, .i .i64, .s], .agg [.i .i64, .i .i64, .s]], [], [], [([.one (.i .i64)], [])]⟩
noncomputable def m_zal : List U → Rt
 | [.i v0, .i v1, .s v2, .i v3, .i v4, .s v5] =>
  (.test (v0 != v3)
  (.test (decide (v0 < v3))
  (.stop 0 [.i ((-1 : Int))])
  (.stop 0 [.i ((1 : Int))]))
  (.test (v1 != v4)
  (.test (decide (v1 < v4))
  (.stop 0 [.i ((-1 : Int))])
  (.stop 0 [.i ((1 : Int))]))
  (.test (Op.bytesLess (ByteArray.toList v2) (ByteArray.toList v5))
  (.stop 0 [.i ((-1 : Int))])
  (.test (!(Op.bytesLess (ByteArray.toList v2) (ByteArray.toList v5) || ByteArray.toList v2 == ByteArray.toList v5))
  (.stop 0 [.i ((1 : Int))])
  (.stop 0 [.i ((0 : Int))])))))
 | _ => .fail
set_option maxRecDepth 100000 in
theorem q_zal (v0 v1 : Int) (v2 : ByteArray) (v3 v4 : Int) (v5 : ByteArray) : callK br Tryz.prog X125 M_zal L_zal (lsT []) 60 24 (encs [.i v0, .i v1, .s v2, .i v3, .i v4, .s v5] 0 S_zal.ap) (encH [.i v0, .i v1, .s v2, .i v3, .i v4, .s v5] (ws S_zal.ap) S_zal.ah) (fun y => fixR Tryz.prog S_zal.plan S_zal.ah.length y) =
  (m_zal [.i v0, .i v1, .s v2, .i v3, .i v4, .s v5]).go br (fun _ => none) S_zal.fin := by
 rw [← callF_eq]; kernel_rfl
theorem e_zal : EOK Tryz.prog 24 (gF S_zal m_zal) :=
 eokTold mixed named x125 (loopsOK_list rids noneIn) 60 S_zal m_zal (by
  intro us v h; unfold m_zal at h; split at h
  ·rename_i v0 v1 v2 v3 v4 v5; exact q_zal v0 v1 v2 v3 v4 v5
  ·cases h) false
noncomputable abbrev X126 : Ext := extT [(24, (gF S_zal m_zal))] X125
theorem x126 : XOK Tryz.prog X126 := xok1 x125 e_zal

/-- levee/leveeref02.Compare -/
def L_zam : FuncId → Nat → Option (List Nat) := liveT [(50, 2, [0, 1, 5]), (50, 1000002, [0, 1]), (50, 2000002, [4])]
def M_zam : FuncId → Bool := fun _ => false
noncomputable def rd_zam_50_2 : List U → Rt
 | [.l v0, .l v1, .i v2] =>
  (.test (decide (v2 < ln v0))
  (.test (decide (v2 < ln v1))
  (.test (inR v2 (ln v0))
  (.test (inR v2 (ln v1))
  (let r0 : Rs := (Rt.res (m_zal [U.i (cI (el v0 v2) 0), U.i (cI (el v0 v2) 1), U.s (cS (el v0 v2) 2), U.i (cI (el v1 v2) 0), U.i (cI (el v1 v2) 1), U.s (cS (el v1 v2) 2)]))
  (.test (ok r0 0)
  (.test (uI (out r0 0) 0 != (0 : Int))
  (.stop 0 [.i (uI (out r0 0) 0)])
  (.next [.l v0, .l v1, .i (w64 (v2 + (1 : Int)))]))
  .fail))
  .fail)
  .fail)
  (.stop 1 [.l v0, .l v1]))
  (.stop 1 [.l v0, .l v1]))
 | _ => .fail
def sp_zam_50_2 : LSp := ⟨41, ⟨[(0, .one (.l 39)), (1, .one (.l 39)), (5, .one (.i .i64))], []⟩, [(.ret, ⟨[(4, .one (.i .i64))], []⟩), (.exit 0, ⟨[(0, .one (.l 39)), (1, .one (.l 39))], []⟩)]⟩
set_option maxRecDepth 100000 in
theorem rq_zam_50_2 (v0 v1 : List (List PV)) (v2 : Int) : runK br Tryz.prog (callK br Tryz.prog X126 M_zam L_zam (lsT []) 40) M_zam (lsT [] 50 0) 40 0 (L_zam 50) (bodyOf Tryz.prog 50 2) (sp_zam_50_2.s.ts sp_zam_50_2.n [.l v0, .l v1, .i v2]) (sp_zam_50_2.s.h [.l v0, .l v1, .i v2]) (idc Tryz.prog 0 (L_zam 50) 2) =
  (rd_zam_50_2 [.l v0, .l v1, .i v2]).go br (fun us' => some (.normal, sp_zam_50_2.s.ts sp_zam_50_2.n us', sp_zam_50_2.s.h us')) sp_zam_50_2.fin := by
 rw [← callF_eq, ← runF_eq]; kernel_rfl
theorem lo_zam_50_2 {R : Type} : LoopTells Tryz.prog X126 M_zam L_zam 0 (L_zam 50) (bodyOf Tryz.prog 50 2) (gL (R := R) sp_zam_50_2 rd_zam_50_2 br) :=
 loopTold (callK_ev (loopsOK_list rids noneIn) 40) (lsokIn (loopsOK_list rids noneIn) 50 0 2) (by kernel_rfl) sp_zam_50_2 rd_zam_50_2 rfl (by kernel_rfl) (by
  intro us v h; unfold rd_zam_50_2 at h; split at h
  ·rename_i v0 v1 v2; exact rq_zam_50_2 v0 v1 v2
  ·cases h)
noncomputable abbrev ll_zam_50_2 {R : Type} : List (Nat × Nat × Nat × Smy R) := (50, 0, 2, gL sp_zam_50_2 rd_zam_50_2 br) :: []
theorem lk_zam_50_2 {R : Type} : ∀ e ∈ ll_zam_50_2 (R := R), LoopTells Tryz.prog X126 M_zam L_zam e.2.1 (L_zam e.1) (bodyOf Tryz.prog e.1 e.2.2.1) e.2.2.2 := List.forall_mem_cons.2 ⟨lo_zam_50_2, noneIn⟩
def S_zam : FSp := ⟨[.one (.l 39), .one (.l 39)], [], [], [([.one (.i .i64)], [])]⟩
noncomputable def m_zam : List U → Rt
 | [.l v0, .l v1] =>
  (let r0 : Rs := (lres rd_zam_50_2 [U.l v0, U.l v1, U.i (0 : Int)])
  (.test (ok r0 0)
  (.stop 0 [.i (uI (out r0 0) 0)])
  (.test (ok r0 1)
  (.test (decide (ln (uL (out r0 1) 0) < ln (uL (out r0 1) 1)))
  (.stop 0 [.i ((-1 : Int))])
  (.test (decide (ln (uL (out r0 1) 0) > ln (uL (out r0 1) 1)))
  (.stop 0 [.i ((1 : Int))])
  (.stop 0 [.i ((0 : Int))])))
  .fail)))
 | _ => .fail
set_option maxRecDepth 100000 in
theorem q_zam (v0 v1 : List (List PV)) : callK br Tryz.prog X126 M_zam L_zam (lsT ll_zam_50_2) 60 50 (encs [.l v0, .l v1] 0 S_zam.ap) (encH [.l v0, .l v1] (ws S_zam.ap) S_zam.ah) (fun y => fixR Tryz.prog S_zam.plan S_zam.ah.length y) =
  (m_zam [.l v0, .l v1]).go br (fun _ => none) S_zam.fin := by
 rw [← callF_eq]; kernel_rfl
theorem e_zam : EOK Tryz.prog 50 (gF S_zam m_zam) :=
 eokTold mixed named x126 (loopsOK_list rids lk_zam_50_2) 60 S_zam m_zam (by
  intro us v h; unfold m_zam at h; split at h
  ·rename_i v0 v1; exact q_zam v0 v1
  ·cases h) false
noncomputable abbrev X127 : Ext := extT [(50, (gF S_zam m_zam))] X126
theorem x127 : XOK Tryz.prog X127 := xok1 x126 e_zam

/-- levee/leveeref05.Add -/
def L_zan : FuncId → Nat → Option (List Nat) := liveT [(36, 4, [0, 1, 2, 7, 8, 9]), (36, 1000004, [1, 2, 7, 8]), (36, 2000004, [6])]
def M_zan : FuncId → Bool := fun _ => false
noncomputable def rd_zan_36_4 : List U → Rt
 | [.l v0, .l v1, .i v2, .b v3, .i v4, .l v5] =>
  (.test (decide (v4 < ln v0))
  (.test (inR v4 (ln v0))
  (let r0 : Rs := (Rt.res (m_zam [U.l (cL (el v0 v4) 0), U.l v1]))
  (.test (ok r0 0)
  (.test (decide (uI (out r0 0) 0 ≥ (0 : Int)))
  (.test (!v3)
  (.test (uI (out r0 0) 0 == (0 : Int))
  (.test (inR v4 (ln v0))
  (.test (w64 (v2 + cI (el v0 v4) 1) != (0 : Int))
  (.test (decide ((List.length v5 + 1) * 32 ≤ 140737488355328))
  (.test (uI (out r0 0) 0 != (0 : Int))
  (.test (inR v4 (ln v0))
  (.test (decide ((List.length (v5 ++ [[PV.lst 39 v1, pI (w64 (v2 + cI (el v0 v4) 1))]]) + 1) * 32 ≤ 140737488355328))
  (.next [.l v0, .l v1, .i v2, .b true, .i (w64 (v4 + (1 : Int))), .l (v5 ++ [[PV.lst 39 v1, pI (w64 (v2 + cI (el v0 v4) 1))]] ++ [[PV.lst 39 (cL (el v0 v4) 0), pI (cI (el v0 v4) 1)]])])
  .fail)
  .fail)
  (.next [.l v0, .l v1, .i v2, .b true, .i (w64 (v4 + (1 : Int))), .l (v5 ++ [[PV.lst 39 v1, pI (w64 (v2 + cI (el v0 v4) 1))]])]))
  .fail)
  (.test (uI (out r0 0) 0 != (0 : Int))
  (.test (inR v4 (ln v0))
  (.test (decide ((List.length v5 + 1) * 32 ≤ 140737488355328))
  (.next [.l v0, .l v1, .i v2, .b true, .i (w64 (v4 + (1 : Int))), .l (v5 ++ [[PV.lst 39 (cL (el v0 v4) 0), pI (cI (el v0 v4) 1)]])])
  .fail)
  .fail)
  (.next [.l v0, .l v1, .i v2, .b true, .i (w64 (v4 + (1 : Int))), .l v5])))
  .fail)
  (.test (v2 != (0 : Int))
  (.test (decide ((List.length v5 + 1) * 32 ≤ 140737488355328))
  (.test (uI (out r0 0) 0 != (0 : Int))
  (.test (inR v4 (ln v0))
  (.test (decide ((List.length (v5 ++ [[PV.lst 39 v1, pI v2]]) + 1) * 32 ≤ 140737488355328))
  (.next [.l v0, .l v1, .i v2, .b true, .i (w64 (v4 + (1 : Int))), .l (v5 ++ [[PV.lst 39 v1, pI v2]] ++ [[PV.lst 39 (cL (el v0 v4) 0), pI (cI (el v0 v4) 1)]])])
  .fail)
  .fail)
  (.next [.l v0, .l v1, .i v2, .b true, .i (w64 (v4 + (1 : Int))), .l (v5 ++ [[PV.lst 39 v1, pI v2]])]))
  .fail)
  (.test (uI (out r0 0) 0 != (0 : Int))
  (.test (inR v4 (ln v0))
  (.test (decide ((List.length v5 + 1) * 32 ≤ 140737488355328))
  (.next [.l v0, .l v1, .i v2, .b true, .i (w64 (v4 + (1 : Int))), .l (v5 ++ [[PV.lst 39 (cL (el v0 v4) 0), pI (cI (el v0 v4) 1)]])])
  .fail)
  .fail)
  (.next [.l v0, .l v1, .i v2, .b true, .i (w64 (v4 + (1 : Int))), .l v5]))))
  (.test (uI (out r0 0) 0 != (0 : Int))
  (.test (inR v4 (ln v0))
  (.test (decide ((List.length v5 + 1) * 32 ≤ 140737488355328))
  (.next [.l v0, .l v1, .i v2, .b v3, .i (w64 (v4 + (1 : Int))), .l (v5 ++ [[PV.lst 39 (cL (el v0 v4) 0), pI (cI (el v0 v4) 1)]])])
  .fail)
  .fail)
  (.next [.l v0, .l v1, .i v2, .b v3, .i (w64 (v4 + (1 : Int))), .l v5])))
  (.test (uI (out r0 0) 0 != (0 : Int))
  (.test (inR v4 (ln v0))
  (.test (decide ((List.length v5 + 1) * 32 ≤ 140737488355328))
  (.next [.l v0, .l v1, .i v2, .b v3, .i (w64 (v4 + (1 : Int))), .l (v5 ++ [[PV.lst 39 (cL (el v0 v4) 0), pI (cI (el v0 v4) 1)]])])
  .fail)
  .fail)
  (.next [.l v0, .l v1, .i v2, .b v3, .i (w64 (v4 + (1 : Int))), .l v5])))
  .fail))
  .fail)
  (.stop 0 [.l v1, .i v2, .b v3, .l v5]))
 | _ => .fail
def sp_zan_36_4 : LSp := ⟨72, ⟨[(0, .one (.l 49)), (1, .one (.l 39)), (2, .one (.i .i64)), (7, .one (.all 0)), (8, .one (.b)), (9, .one (.i .i64))], [.arr 49 true]⟩, [(.exit 0, ⟨[(1, .one (.l 39)), (2, .one (.i .i64)), (7, .one (.all 0)), (8, .one (.b))], [.arr 49 true]⟩)]⟩
set_option maxRecDepth 100000 in
theorem rq_zan_36_4 (v0 v1 : List (List PV)) (v2 : Int) (v3 : Bool) (v4 : Int) (v5 : List (List PV)) : runK br Tryz.prog (callK br Tryz.prog X127 M_zan L_zan (lsT []) 40) M_zan (lsT [] 36 0) 40 0 (L_zan 36) (bodyOf Tryz.prog 36 4) (sp_zan_36_4.s.ts sp_zan_36_4.n [.l v0, .l v1, .i v2, .b v3, .i v4, .l v5]) (sp_zan_36_4.s.h [.l v0, .l v1, .i v2, .b v3, .i v4, .l v5]) (idc Tryz.prog 0 (L_zan 36) 4) =
  (rd_zan_36_4 [.l v0, .l v1, .i v2, .b v3, .i v4, .l v5]).go br (fun us' => some (.normal, sp_zan_36_4.s.ts sp_zan_36_4.n us', sp_zan_36_4.s.h us')) sp_zan_36_4.fin := by
 rw [← callF_eq, ← runF_eq]; kernel_rfl
theorem lo_zan_36_4 {R : Type} : LoopTells Tryz.prog X127 M_zan L_zan 0 (L_zan 36) (bodyOf Tryz.prog 36 4) (gL (R := R) sp_zan_36_4 rd_zan_36_4 br) :=
 loopTold (callK_ev (loopsOK_list rids noneIn) 40) (lsokIn (loopsOK_list rids noneIn) 36 0 4) (by kernel_rfl) sp_zan_36_4 rd_zan_36_4 rfl (by kernel_rfl) (by
  intro us v h; unfold rd_zan_36_4 at h; split at h
  ·rename_i v0 v1 v2 v3 v4 v5; exact rq_zan_36_4 v0 v1 v2 v3 v4 v5
  ·cases h)
noncomputable abbrev ll_zan_36_4 {R : Type} : List (Nat × Nat × Nat × Smy R) := (36, 0, 4, gL sp_zan_36_4 rd_zan_36_4 br) :: []
theorem lk_zan_36_4 {R : Type} : ∀ e ∈ ll_zan_36_4 (R := R), LoopTells Tryz.prog X127 M_zan L_zan e.2.1 (L_zan e.1) (bodyOf Tryz.prog e.1 e.2.2.1) e.2.2.2 := List.forall_mem_cons.2 ⟨lo_zan_36_4, noneIn⟩
def S_zan : FSp := ⟨[.one (.l 49), .one (.l 39), .one (.i .i64)], [], [], [([.one (.all 0)], [.arr 49 true])]⟩
noncomputable def m_zan : List U → Rt
 | [.l v0, .l v1, .i v2] =>
  (let r0 : Rs := (lres rd_zan_36_4 [U.l v0, U.l v1, U.i v2, U.b false, U.i (0 : Int), U.l []])
  (.test (ok r0 0)
  (.test (!uB (out r0 0) 2)
  (.test (uI (out r0 0) 1 != (0 : Int))
  (.test (decide ((List.length (uL (out r0 0) 3) + 1) * 32 ≤ 140737488355328))
  (.stop 0 [.l (uL (out r0 0) 3 ++ [[PV.lst 39 (uL (out r0 0) 0), pI (uI (out r0 0) 1)]])])
  .fail)
  (.stop 0 [.l (uL (out r0 0) 3)]))
  (.stop 0 [.l (uL (out r0 0) 3)]))
  .fail))
 | _ => .fail
set_option maxRecDepth 100000 in
theorem q_zan (v0 v1 : List (List PV)) (v2 : Int) : callK br Tryz.prog X127 M_zan L_zan (lsT ll_zan_36_4) 60 36 (encs [.l v0, .l v1, .i v2] 0 S_zan.ap) (encH [.l v0, .l v1, .i v2] (ws S_zan.ap) S_zan.ah) (fun y => fixR Tryz.prog S_zan.plan S_zan.ah.length y) =
  (m_zan [.l v0, .l v1, .i v2]).go br (fun _ => none) S_zan.fin := by
 rw [← callF_eq]; kernel_rfl
theorem e_zan : EOK Tryz.prog 36 (gF S_zan m_zan) :=
 eokTold mixed named x127 (loopsOK_list rids lk_zan_36_4) 60 S_zan m_zan (by
  intro us v h; unfold m_zan at h; split at h
  ·rename_i v0 v1 v2; exact q_zan v0 v1 v2
  ·cases h) false
noncomputable abbrev X128 : Ext := extT [(36, (gF S_zan m_zan))] X127
theorem x128 : XOK Tryz.prog X128 := xok1 x127 e_zan

/-- levee/leveeref05.Fits -/
def L_zar : FuncId → Nat → Option (List Nat) := liveT []
def M_zar : FuncId → Bool := fun _ => false
def S_zar : FSp := ⟨[.one (.i .i64)], [], [], [([.one (.b)], [])]⟩
noncomputable def m_zar : List U → Rt
 | [.i v0] =>
  (.test (decide (v0 ≥ (-1000000000 : Int)))
  (.stop 0 [.b (decide (v0 ≤ (1000000000 : Int)))])
  (.stop 0 [.b false]))
 | _ => .fail
set_option maxRecDepth 100000 in
theorem q_zar (v0 : Int) : callK br Tryz.prog X128 M_zar L_zar (lsT []) 60 62 (encs [.i v0] 0 S_zar.ap) (encH [.i v0] (ws S_zar.ap) S_zar.ah) (fun y => fixR Tryz.prog S_zar.plan S_zar.ah.length y) =
  (m_zar [.i v0]).go br (fun _ => none) S_zar.fin := by
 rw [← callF_eq]; kernel_rfl
theorem e_zar : EOK Tryz.prog 62 (gF S_zar m_zar) :=
 eokTold mixed named x128 (loopsOK_list rids noneIn) 60 S_zar m_zar (by
  intro us v h; unfold m_zar at h; split at h
  ·rename_i v0; exact q_zar v0
  ·cases h) false
noncomputable abbrev X132 : Ext := extT [(62, (gF S_zar m_zar))] X128
theorem x132 : XOK Tryz.prog X132 := xok1 x128 e_zar

/-- levee/leveeref05.May -/
def L_zas : FuncId → Nat → Option (List Nat) := liveT [(31, 2, [0, 3]), (31, 1000002, []), (31, 2000002, [2])]
def M_zas : FuncId → Bool := fun _ => false
noncomputable def rd_zas_31_2 : List U → Rt
 | [.l v0, .i v1] =>
  (.test (decide (v1 < ln v0))
  (.test (inR v1 (ln v0))
  (.test (cI (el v0 v1) 1 == (0 : Int))
  (.stop 0 [.b false])
  (.test (inR v1 (ln v0))
  (let r0 : Rs := (Rt.res (m_zar [U.i (cI (el v0 v1) 1)]))
  (.test (ok r0 0)
  (.test (!uB (out r0 0) 0)
  (.stop 0 [.b false])
  (.test (inR v1 (ln v0))
  (let r1 : Rs := (Rt.res (m_zak [U.l (cL (el v0 v1) 0)]))
  (.test (ok r1 0)
  (.test (!uB (out r1 0) 0)
  (.stop 0 [.b false])
  (.test (decide (v1 > (0 : Int)))
  (.test (inR (w64 (v1 - (1 : Int))) (ln v0))
  (.test (inR v1 (ln v0))
  (let r2 : Rs := (Rt.res (m_zam [U.l (cL (el v0 (w64 (v1 - (1 : Int)))) 0), U.l (cL (el v0 v1) 0)]))
  (.test (ok r2 0)
  (.test (decide (uI (out r2 0) 0 ≥ (0 : Int)))
  (.stop 0 [.b false])
  (.next [.l v0, .i (w64 (v1 + (1 : Int)))]))
  .fail))
  .fail)
  .fail)
  (.next [.l v0, .i (w64 (v1 + (1 : Int)))])))
  .fail))
  .fail))
  .fail))
  .fail))
  .fail)
  (.stop 1 []))
 | _ => .fail
def sp_zas_31_2 : LSp := ⟨53, ⟨[(0, .one (.l 49)), (3, .one (.i .i64))], []⟩, [(.ret, ⟨[(2, .one (.b))], []⟩), (.exit 0, ⟨[], []⟩)]⟩
set_option maxRecDepth 100000 in
theorem rq_zas_31_2 (v0 : List (List PV)) (v1 : Int) : runK br Tryz.prog (callK br Tryz.prog X132 M_zas L_zas (lsT []) 40) M_zas (lsT [] 31 0) 40 0 (L_zas 31) (bodyOf Tryz.prog 31 2) (sp_zas_31_2.s.ts sp_zas_31_2.n [.l v0, .i v1]) (sp_zas_31_2.s.h [.l v0, .i v1]) (idc Tryz.prog 0 (L_zas 31) 2) =
  (rd_zas_31_2 [.l v0, .i v1]).go br (fun us' => some (.normal, sp_zas_31_2.s.ts sp_zas_31_2.n us', sp_zas_31_2.s.h us')) sp_zas_31_2.fin := by
 rw [← callF_eq, ← runF_eq]; kernel_rfl
theorem lo_zas_31_2 {R : Type} : LoopTells Tryz.prog X132 M_zas L_zas 0 (L_zas 31) (bodyOf Tryz.prog 31 2) (gL (R := R) sp_zas_31_2 rd_zas_31_2 br) :=
 loopTold (callK_ev (loopsOK_list rids noneIn) 40) (lsokIn (loopsOK_list rids noneIn) 31 0 2) (by kernel_rfl) sp_zas_31_2 rd_zas_31_2 rfl (by kernel_rfl) (by
  intro us v h; unfold rd_zas_31_2 at h; split at h
  ·rename_i v0 v1; exact rq_zas_31_2 v0 v1
  ·cases h)
noncomputable abbrev ll_zas_31_2 {R : Type} : List (Nat × Nat × Nat × Smy R) := (31, 0, 2, gL sp_zas_31_2 rd_zas_31_2 br) :: []
theorem lk_zas_31_2 {R : Type} : ∀ e ∈ ll_zas_31_2 (R := R), LoopTells Tryz.prog X132 M_zas L_zas e.2.1 (L_zas e.1) (bodyOf Tryz.prog e.1 e.2.2.1) e.2.2.2 := List.forall_mem_cons.2 ⟨lo_zas_31_2, noneIn⟩
def S_zas : FSp := ⟨[.one (.l 49)], [], [], [([.one (.b)], [])]⟩
noncomputable def m_zas : List U → Rt
 | [.l v0] =>
  (let r0 : Rs := (lres rd_zas_31_2 [U.l v0, U.i (0 : Int)])
  (.test (ok r0 0)
  (.stop 0 [.b (uB (out r0 0) 0)])
  (.test (ok r0 1)
  (.stop 0 [.b true])
  .fail)))
 | _ => .fail
set_option maxRecDepth 100000 in
theorem q_zas (v0 : List (List PV)) : callK br Tryz.prog X132 M_zas L_zas (lsT ll_zas_31_2) 60 31 (encs [.l v0] 0 S_zas.ap) (encH [.l v0] (ws S_zas.ap) S_zas.ah) (fun y => fixR Tryz.prog S_zas.plan S_zas.ah.length y) =
  (m_zas [.l v0]).go br (fun _ => none) S_zas.fin := by
 rw [← callF_eq]; kernel_rfl
theorem e_zas : EOK Tryz.prog 31 (gF S_zas m_zas) :=
 eokTold mixed named x132 (loopsOK_list rids lk_zas_31_2) 60 S_zas m_zas (by
  intro us v h; unfold m_zas at h; split at h
  ·rename_i v0; exact q_zas v0
  ·cases h) false
noncomputable abbrev X133 : Ext := extT [(31, (gF S_zas m_zas))] X132
theorem x133 : XOK Tryz.prog X133 := xok1 x132 e_zas

/-- levee/leveeref01.Digits -/
def L_zau : FuncId → Nat → Option (List Nat) := liveT [(84, 2, [0, 3]), (84, 1000002, [0, 3]), (84, 2000002, [2])]
def M_zau : FuncId → Bool := fun _ => false
noncomputable def rd_zau_84_2 : List U → Rt
 | [.i v0, .s v1] =>
  (.test (decide (v0 > (9 : Int)))
  (.test (decide ((0 : Int) ≤ Int.tmod v0 (10 : Int) ∧ Int.tmod v0 (10 : Int) ≤ IntKind.wrap IntKind.u64 (Int.tmod v0 (10 : Int) + (1 : Int)) ∧ IntKind.wrap IntKind.u64 (Int.tmod v0 (10 : Int) + (1 : Int)) ≤ (10 : Int)))
  (.test (decide (ByteArray.size (ByteArray.extract { data := #[(48 : UInt8), (49 : UInt8), (50 : UInt8), (51 : UInt8), (52 : UInt8), (53 : UInt8), (54 : UInt8), (55 : UInt8), (56 : UInt8), (57 : UInt8)] } (Int.toNat (Int.tmod v0 (10 : Int))) (Int.toNat (IntKind.wrap IntKind.u64 (Int.tmod v0 (10 : Int) + (1 : Int))))) + ByteArray.size v1 ≤ 9223372036854775807))
  (.next [.i (IntKind.wrap IntKind.u64 (Int.tdiv v0 (10 : Int))), .s (ByteArray.extract { data := #[(48 : UInt8), (49 : UInt8), (50 : UInt8), (51 : UInt8), (52 : UInt8), (53 : UInt8), (54 : UInt8), (55 : UInt8), (56 : UInt8), (57 : UInt8)] } (Int.toNat (Int.tmod v0 (10 : Int))) (Int.toNat (IntKind.wrap IntKind.u64 (Int.tmod v0 (10 : Int) + (1 : Int)))) ++ v1)])
  .fail)
  .fail)
  (.stop 0 [.i v0, .s v1]))
 | _ => .fail
def sp_zau_84_2 : LSp := ⟨22, ⟨[(0, .one (.i .u64)), (3, .one (.s))], []⟩, [(.exit 0, ⟨[(0, .one (.i .u64)), (3, .one (.s))], []⟩)]⟩
set_option maxRecDepth 100000 in
theorem rq_zau_84_2 (v0 : Int) (v1 : ByteArray) : runK br Tryz.prog (callK br Tryz.prog X133 M_zau L_zau (lsT []) 40) M_zau (lsT [] 84 0) 40 0 (L_zau 84) (bodyOf Tryz.prog 84 2) (sp_zau_84_2.s.ts sp_zau_84_2.n [.i v0, .s v1]) (sp_zau_84_2.s.h [.i v0, .s v1]) (idc Tryz.prog 0 (L_zau 84) 2) =
  (rd_zau_84_2 [.i v0, .s v1]).go br (fun us' => some (.normal, sp_zau_84_2.s.ts sp_zau_84_2.n us', sp_zau_84_2.s.h us')) sp_zau_84_2.fin := by
 rw [← callF_eq, ← runF_eq]; kernel_rfl
theorem lo_zau_84_2 {R : Type} : LoopTells Tryz.prog X133 M_zau L_zau 0 (L_zau 84) (bodyOf Tryz.prog 84 2) (gL (R := R) sp_zau_84_2 rd_zau_84_2 br) :=
 loopTold (callK_ev (loopsOK_list rids noneIn) 40) (lsokIn (loopsOK_list rids noneIn) 84 0 2) (by kernel_rfl) sp_zau_84_2 rd_zau_84_2 rfl (by kernel_rfl) (by
  intro us v h; unfold rd_zau_84_2 at h; split at h
  ·rename_i v0 v1; exact rq_zau_84_2 v0 v1
  ·cases h)
noncomputable abbrev ll_zau_84_2 {R : Type} : List (Nat × Nat × Nat × Smy R) := (84, 0, 2, gL sp_zau_84_2 rd_zau_84_2 br) :: []
theorem lk_zau_84_2 {R : Type} : ∀ e ∈ ll_zau_84_2 (R := R), LoopTells Tryz.prog X133 M_zau L_zau e.2.1 (L_zau e.1) (bodyOf Tryz.prog e.1 e.2.2.1) e.2.2.2 := List.forall_mem_cons.2 ⟨lo_zau_84_2, noneIn⟩
def S_zau : FSp := ⟨[.one (.i .u64)], [], [], [([.one (.s)], [])]⟩
noncomputable def m_zau : List U → Rt
 | [.i v0] =>
  (let r0 : Rs := (lres rd_zau_84_2 [U.i v0, U.s { data := #[] }])
  (.test (ok r0 0)
  (.test (decide ((0 : Int) ≤ uI (out r0 0) 0 ∧ uI (out r0 0) 0 ≤ IntKind.wrap IntKind.u64 (uI (out r0 0) 0 + (1 : Int)) ∧ IntKind.wrap IntKind.u64 (uI (out r0 0) 0 + (1 : Int)) ≤ (10 : Int)))
  (.test (decide (ByteArray.size (ByteArray.extract { data := #[(48 : UInt8), (49 : UInt8), (50 : UInt8), (51 : UInt8), (52 : UInt8), (53 : UInt8), (54 : UInt8), (55 : UInt8), (56 : UInt8), (57 : UInt8)] } (Int.toNat (uI (out r0 0) 0)) (Int.toNat (IntKind.wrap IntKind.u64 (uI (out r0 0) 0 + (1 : Int))))) + ByteArray.size (uS (out r0 0) 1) ≤ 9223372036854775807))
  (.stop 0 [.s (ByteArray.extract { data := #[(48 : UInt8), (49 : UInt8), (50 : UInt8), (51 : UInt8), (52 : UInt8), (53 : UInt8), (54 : UInt8), (55 : UInt8), (56 : UInt8), (57 : UInt8)] } (Int.toNat (uI (out r0 0) 0)) (Int.toNat (IntKind.wrap IntKind.u64 (uI (out r0 0) 0 + (1 : Int)))) ++ uS (out r0 0) 1)])
  .fail)
  .fail)
  .fail))
 | _ => .fail
set_option maxRecDepth 100000 in
theorem q_zau (v0 : Int) : callK br Tryz.prog X133 M_zau L_zau (lsT ll_zau_84_2) 60 84 (encs [.i v0] 0 S_zau.ap) (encH [.i v0] (ws S_zau.ap) S_zau.ah) (fun y => fixR Tryz.prog S_zau.plan S_zau.ah.length y) =
  (m_zau [.i v0]).go br (fun _ => none) S_zau.fin := by
 rw [← callF_eq]; kernel_rfl
theorem e_zau : EOK Tryz.prog 84 (gF S_zau m_zau) :=
 eokTold mixed named x133 (loopsOK_list rids lk_zau_84_2) 60 S_zau m_zau (by
  intro us v h; unfold m_zau at h; split at h
  ·rename_i v0; exact q_zau v0
  ·cases h) false
noncomputable abbrev X135 : Ext := extT [(84, (gF S_zau m_zau))] X133
theorem x135 : XOK Tryz.prog X135 := xok1 x133 e_zau

/-- levee/leveeref01.Signed -/
def L_zav : FuncId → Nat → Option (List Nat) := liveT []
def M_zav : FuncId → Bool := fun _ => false
def S_zav : FSp := ⟨[.one (.i .i64)], [], [], [([.one (.s)], [])]⟩
noncomputable def m_zav : List U → Rt
 | [.i v0] =>
  (.test (decide (v0 < (0 : Int)))
  (let r0 : Rs := (Rt.res (m_zau [U.i (IntKind.wrap IntKind.u64 (IntKind.wrap IntKind.u64 (w64 ((0 : Int) - w64 (v0 + (1 : Int)))) + (1 : Int)))]))
  (.test (ok r0 0)
  (.test (decide (1 + ByteArray.size (uS (out r0 0) 0) ≤ 9223372036854775807))
  (.stop 0 [.s ({ data := #[(45 : UInt8)] } ++ uS (out r0 0) 0)])
  .fail)
  .fail))
  (let r1 : Rs := (Rt.res (m_zau [U.i (IntKind.wrap IntKind.u64 v0)]))
  (.test (ok r1 0)
  (.stop 0 [.s (uS (out r1 0) 0)])
  .fail)))
 | _ => .fail
set_option maxRecDepth 100000 in
theorem q_zav (v0 : Int) : callK br Tryz.prog X135 M_zav L_zav (lsT []) 60 67 (encs [.i v0] 0 S_zav.ap) (encH [.i v0] (ws S_zav.ap) S_zav.ah) (fun y => fixR Tryz.prog S_zav.plan S_zav.ah.length y) =
  (m_zav [.i v0]).go br (fun _ => none) S_zav.fin := by
 rw [← callF_eq]; kernel_rfl
theorem e_zav : EOK Tryz.prog 67 (gF S_zav m_zav) :=
 eokTold mixed named x135 (loopsOK_list rids noneIn) 60 S_zav m_zav (by
  intro us v h; unfold m_zav at h; split at h
  ·rename_i v0; exact q_zav v0
  ·cases h) false
noncomputable abbrev X136 : Ext := extT [(67, (gF S_zav m_zav))] X135
theorem x136 : XOK Tryz.prog X136 := xok1 x135 e_zav

/-- levee/leveeref01.Text -/
def L_zaw : FuncId → Nat → Option (List Nat) := liveT [(83, 13, [1, 3, 4]), (83, 1000013, [3]), (83, 2000013, [2])]
def M_zaw : FuncId → Bool := fun _ => false
noncomputable def rd_zaw_83_13 : List U → Rt
 | [.s v0, .i v1, .i v2, .i v3, .s v4] =>
  (.test (decide (v1 < (↑(ByteArray.size v4) : Int)))
  (.test (inR v1 (↑(ByteArray.size v4) : Int))
  (.test ((↑(UInt8.toNat (List.getD (Array.toList (ByteArray.data v4)) (Int.toNat v1) (0 : UInt8))) : Int) == (39 : Int))
  (.test (decide (ByteArray.size v0 + 1 ≤ 9223372036854775807))
  (.test (decide ((0 : Int) ≤ v1 ∧ v1 ≤ w64 (v1 + (1 : Int)) ∧ w64 (v1 + (1 : Int)) ≤ (↑(ByteArray.size v4) : Int)))
  (.test (decide (ByteArray.size (v0 ++ { data := #[(39 : UInt8)] }) + ByteArray.size (ByteArray.extract v4 (Int.toNat v1) (Int.toNat (w64 (v1 + (1 : Int))))) ≤ 9223372036854775807))
  (.next [.s (v0 ++ { data := #[(39 : UInt8)] } ++ ByteArray.extract v4 (Int.toNat v1) (Int.toNat (w64 (v1 + (1 : Int))))), .i (w64 (v1 + (1 : Int))), .i v2, .i v3, .s v4])
  .fail)
  .fail)
  .fail)
  (.test (decide ((0 : Int) ≤ v1 ∧ v1 ≤ w64 (v1 + (1 : Int)) ∧ w64 (v1 + (1 : Int)) ≤ (↑(ByteArray.size v4) : Int)))
  (.test (decide (ByteArray.size v0 + ByteArray.size (ByteArray.extract v4 (Int.toNat v1) (Int.toNat (w64 (v1 + (1 : Int))))) ≤ 9223372036854775807))
  (.next [.s (v0 ++ ByteArray.extract v4 (Int.toNat v1) (Int.toNat (w64 (v1 + (1 : Int))))), .i (w64 (v1 + (1 : Int))), .i v2, .i v3, .s v4])
  .fail)
  .fail))
  .fail)
  (.stop 0 [.s v0]))
 | _ => .fail
def sp_zaw_83_13 : LSp := ⟨45, ⟨[(1, .one (.ptr 0 0)), (3, .one (.s)), (4, .one (.i .i64))], [.box 39 [.one (.i .i64), .one (.i .i64), .one (.s)]]⟩, [(.exit 1, ⟨[(3, .one (.s))], []⟩)]⟩
set_option maxRecDepth 100000 in
theorem rq_zaw_83_13 (v0 : ByteArray) (v1 v2 v3 : Int) (v4 : ByteArray) : runK br Tryz.prog (callK br Tryz.prog X136 M_zaw L_zaw (lsT []) 40) M_zaw (lsT [] 83 0) 40 0 (L_zaw 83) (bodyOf Tryz.prog 83 13) (sp_zaw_83_13.s.ts sp_zaw_83_13.n [.s v0, .i v1, .i v2, .i v3, .s v4]) (sp_zaw_83_13.s.h [.s v0, .i v1, .i v2, .i v3, .s v4]) (idc Tryz.prog 0 (L_zaw 83) 13) =
  (rd_zaw_83_13 [.s v0, .i v1, .i v2, .i v3, .s v4]).go br (fun us' => some (.normal, sp_zaw_83_13.s.ts sp_zaw_83_13.n us', sp_zaw_83_13.s.h us')) sp_zaw_83_13.fin := by
 rw [← callF_eq, ← runF_eq]; kernel_rfl
theorem lo_zaw_83_13 {R : Type} : LoopTells Tryz.prog X136 M_zaw L_zaw 0 (L_zaw 83) (bodyOf Tryz.prog 83 13) (gL (R := R) sp_zaw_83_13 rd_zaw_83_13 br) :=
 loopTold (callK_ev (loopsOK_list rids noneIn) 40) (lsokIn (loopsOK_list rids noneIn) 83 0 13) (by kernel_rfl) sp_zaw_83_13 rd_zaw_83_13 rfl (by kernel_rfl) (by
  intro us v h; unfold rd_zaw_83_13 at h; split at h
  ·rename_i v0 v1 v2 v3 v4; exact rq_zaw_83_13 v0 v1 v2 v3 v4
  ·cases h)
noncomputable abbrev ll_zaw_83_13 {R : Type} : List (Nat × Nat × Nat × Smy R) := (83, 0, 13, gL sp_zaw_83_13 rd_zaw_83_13 br) :: []
theorem lk_zaw_83_13 {R : Type} : ∀ e ∈ ll_zaw_83_13 (R := R), LoopTells Tryz.prog X136 M_zaw L_zaw e.2.1 (L_zaw e.1) (bodyOf Tryz.prog e.1 e.2.2.1) e.2.2.2 := List.forall_mem_cons.2 ⟨lo_zaw_83_13, noneIn⟩
def S_zaw : FSp := ⟨[.agg [.i .i64, .i .i64, .s]], [], [], [([.one (.s)], [])]⟩
noncomputable def m_zaw : List U → Rt
 | [.i v0, .i v1, .s v2] =>
  (.test (v0 == (0 : Int))
  (.stop 0 [.s ({ data := #[(110 : UInt8), (117 : UInt8), (108 : UInt8), (108 : UInt8)] })])
  (.test (v0 == (1 : Int))
  (.test (v1 == (0 : Int))
  (.stop 0 [.s ({ data := #[(102 : UInt8), (97 : UInt8), (108 : UInt8), (115 : UInt8), (101 : UInt8)] })])
  (.stop 0 [.s ({ data := #[(116 : UInt8), (114 : UInt8), (117 : UInt8), (101 : UInt8)] })]))
  (.test (v0 == (2 : Int))
  (let r0 : Rs := (Rt.res (m_zav [U.i v1]))
  (.test (ok r0 0)
  (.stop 0 [.s (uS (out r0 0) 0)])
  .fail))
  (.test (v0 == (3 : Int))
  (let r1 : Rs := (lres rd_zaw_83_13 [U.s { data := #[(39 : UInt8)] }, U.i (0 : Int), U.i v0, U.i v1, U.s v2])
  (.test (ok r1 0)
  (.test (decide (ByteArray.size (uS (out r1 0) 0) + 1 ≤ 9223372036854775807))
  (.stop 0 [.s (uS (out r1 0) 0 ++ { data := #[(39 : UInt8)] })])
  .fail)
  .fail))
  (.stop 0 [.s ({ data := #[(63 : UInt8)] })])))))
 | _ => .fail
set_option maxRecDepth 100000 in
theorem q_zaw (v0 v1 : Int) (v2 : ByteArray) : callK br Tryz.prog X136 M_zaw L_zaw (lsT ll_zaw_83_13) 60 83 (encs [.i v0, .i v1, .s v2] 0 S_zaw.ap) (encH [.i v0, .i v1, .s v2] (ws S_zaw.ap) S_zaw.ah) (fun y => fixR Tryz.prog S_zaw.plan S_zaw.ah.length y) =
  (m_zaw [.i v0, .i v1, .s v2]).go br (fun _ => none) S_zaw.fin := by
 rw [← callF_eq]; kernel_rfl
theorem e_zaw : EOK Tryz.prog 83 (gF S_zaw m_zaw) :=
 eokTold mixed named x136 (loopsOK_list rids lk_zaw_83_13) 60 S_zaw m_zaw (by
  intro us v h; unfold m_zaw at h; split at h
  ·rename_i v0 v1 v2; exact q_zaw v0 v1 v2
  ·cases h) false
noncomputable abbrev X137 : Ext := extT [(83, (gF S_zaw m_zaw))] X136
theorem x137 : XOK Tryz.prog X137 := xok1 x136 e_zaw

/-- levee/leveeref04.Text -/
def L_zax : FuncId → Nat → Option (List Nat) := liveT [(66, 3, [0, 3, 4]), (66, 1000003, [3]), (66, 2000003, [2])]
def M_zax : FuncId → Bool := fun _ => false
noncomputable def rd_zax_66_3 : List U → Rt
 | [.l v0, .s v1, .i v2] =>
  (.test (decide (v2 < ln v0))
  (.test (decide (v2 > (0 : Int)))
  (.test (decide (ByteArray.size v1 + 2 ≤ 9223372036854775807))
  (.test (inR v2 (ln v0))
  (let r0 : Rs := (Rt.res (m_zaw [U.i (cI (el v0 v2) 0), U.i (cI (el v0 v2) 1), U.s (cS (el v0 v2) 2)]))
  (.test (ok r0 0)
  (.test (decide (ByteArray.size (v1 ++ { data := #[(44 : UInt8), (32 : UInt8)] }) + ByteArray.size (uS (out r0 0) 0) ≤ 9223372036854775807))
  (.next [.l v0, .s (v1 ++ { data := #[(44 : UInt8), (32 : UInt8)] } ++ uS (out r0 0) 0), .i (w64 (v2 + (1 : Int)))])
  .fail)
  .fail))
  .fail)
  .fail)
  (.test (inR v2 (ln v0))
  (let r1 : Rs := (Rt.res (m_zaw [U.i (cI (el v0 v2) 0), U.i (cI (el v0 v2) 1), U.s (cS (el v0 v2) 2)]))
  (.test (ok r1 0)
  (.test (decide (ByteArray.size v1 + ByteArray.size (uS (out r1 0) 0) ≤ 9223372036854775807))
  (.next [.l v0, .s (v1 ++ uS (out r1 0) 0), .i (w64 (v2 + (1 : Int)))])
  .fail)
  .fail))
  .fail))
  (.stop 0 [.s v1]))
 | _ => .fail
def sp_zax_66_3 : LSp := ⟨24, ⟨[(0, .one (.l 39)), (3, .one (.s)), (4, .one (.i .i64))], []⟩, [(.exit 0, ⟨[(3, .one (.s))], []⟩)]⟩
set_option maxRecDepth 100000 in
theorem rq_zax_66_3 (v0 : List (List PV)) (v1 : ByteArray) (v2 : Int) : runK br Tryz.prog (callK br Tryz.prog X137 M_zax L_zax (lsT []) 40) M_zax (lsT [] 66 0) 40 0 (L_zax 66) (bodyOf Tryz.prog 66 3) (sp_zax_66_3.s.ts sp_zax_66_3.n [.l v0, .s v1, .i v2]) (sp_zax_66_3.s.h [.l v0, .s v1, .i v2]) (idc Tryz.prog 0 (L_zax 66) 3) =
  (rd_zax_66_3 [.l v0, .s v1, .i v2]).go br (fun us' => some (.normal, sp_zax_66_3.s.ts sp_zax_66_3.n us', sp_zax_66_3.s.h us')) sp_zax_66_3.fin := by
 rw [← callF_eq, ← runF_eq]; kernel_rfl
theorem lo_zax_66_3 {R : Type} : LoopTells Tryz.prog X137 M_zax L_zax 0 (L_zax 66) (bodyOf Tryz.prog 66 3) (gL (R := R) sp_zax_66_3 rd_zax_66_3 br) :=
 loopTold (callK_ev (loopsOK_list rids noneIn) 40) (lsokIn (loopsOK_list rids noneIn) 66 0 3) (by kernel_rfl) sp_zax_66_3 rd_zax_66_3 rfl (by kernel_rfl) (by
  intro us v h; unfold rd_zax_66_3 at h; split at h
  ·rename_i v0 v1 v2; exact rq_zax_66_3 v0 v1 v2
  ·cases h)
noncomputable abbrev ll_zax_66_3 {R : Type} : List (Nat × Nat × Nat × Smy R) := (66, 0, 3, gL sp_zax_66_3 rd_zax_66_3 br) :: []
theorem lk_zax_66_3 {R : Type} : ∀ e ∈ ll_zax_66_3 (R := R), LoopTells Tryz.prog X137 M_zax L_zax e.2.1 (L_zax e.1) (bodyOf Tryz.prog e.1 e.2.2.1) e.2.2.2 := List.forall_mem_cons.2 ⟨lo_zax_66_3, noneIn⟩
def S_zax : FSp := ⟨[.one (.l 39)], [], [], [([.one (.s)], [])]⟩
noncomputable def m_zax : List U → Rt
 | [.l v0] =>
  (let r0 : Rs := (lres rd_zax_66_3 [U.l v0, U.s { data := #[(40 : UInt8)] }, U.i (0 : Int)])
  (.test (ok r0 0)
  (.test (decide (ByteArray.size (uS (out r0 0) 0) + 1 ≤ 9223372036854775807))
  (.stop 0 [.s (uS (out r0 0) 0 ++ { data := #[(41 : UInt8)] })])
  .fail)
  .fail))
 | _ => .fail
set_option maxRecDepth 100000 in
theorem q_zax (v0 : List (List PV)) : callK br Tryz.prog X137 M_zax L_zax (lsT ll_zax_66_3) 60 66 (encs [.l v0] 0 S_zax.ap) (encH [.l v0] (ws S_zax.ap) S_zax.ah) (fun y => fixR Tryz.prog S_zax.plan S_zax.ah.length y) =
  (m_zax [.l v0]).go br (fun _ => none) S_zax.fin := by
 rw [← callF_eq]; kernel_rfl
theorem e_zax : EOK Tryz.prog 66 (gF S_zax m_zax) :=
 eokTold mixed named x137 (loopsOK_list rids lk_zax_66_3) 60 S_zax m_zax (by
  intro us v h; unfold m_zax at h; split at h
  ·rename_i v0; exact q_zax v0
  ·cases h) false
noncomputable abbrev X138 : Ext := extT [(66, (gF S_zax m_zax))] X137
theorem x138 : XOK Tryz.prog X138 := xok1 x137 e_zax

/-- levee/leveeref05.Text -/
def L_zay : FuncId → Nat → Option (List Nat) := liveT [(41, 3, [0, 3, 4]), (41, 1000003, [3]), (41, 2000003, [2])]
def M_zay : FuncId → Bool := fun _ => false
noncomputable def rd_zay_41_3 : List U → Rt
 | [.l v0, .s v1, .i v2] =>
  (.test (decide (v2 < ln v0))
  (let r0 : Rs := (Rt.res (m_zas [U.l v0]))
  (.test (ok r0 0)
  (.test (uB (out r0 0) 0)
  (.test (decide (v2 > (0 : Int)))
  (.test (decide (ByteArray.size v1 + 1 ≤ 9223372036854775807))
  (.test (inR v2 (ln v0))
  (let r1 : Rs := (Rt.res (m_zax [U.l (cL (el v0 v2) 0)]))
  (.test (ok r1 0)
  (.test (decide (ByteArray.size (v1 ++ { data := #[(32 : UInt8)] }) + ByteArray.size (uS (out r1 0) 0) ≤ 9223372036854775807))
  (.test (inR v2 (ln v0))
  (.test (cI (el v0 v2) 1 != (1 : Int))
  (.test (inR v2 (ln v0))
  (let r2 : Rs := (Rt.res (m_zav [U.i (cI (el v0 v2) 1)]))
  (.test (ok r2 0)
  (.test (decide (1 + ByteArray.size (uS (out r2 0) 0) ≤ 9223372036854775807))
  (.test (decide (ByteArray.size (v1 ++ { data := #[(32 : UInt8)] } ++ uS (out r1 0) 0) + ByteArray.size ({ data := #[(42 : UInt8)] } ++ uS (out r2 0) 0) ≤ 9223372036854775807))
  (.next [.l v0, .s (v1 ++ { data := #[(32 : UInt8)] } ++ uS (out r1 0) 0 ++ ({ data := #[(42 : UInt8)] } ++ uS (out r2 0) 0)), .i (w64 (v2 + (1 : Int)))])
  .fail)
  .fail)
  .fail))
  .fail)
  (.next [.l v0, .s (v1 ++ { data := #[(32 : UInt8)] } ++ uS (out r1 0) 0), .i (w64 (v2 + (1 : Int)))]))
  .fail)
  .fail)
  .fail))
  .fail)
  .fail)
  (.test (inR v2 (ln v0))
  (let r3 : Rs := (Rt.res (m_zax [U.l (cL (el v0 v2) 0)]))
  (.test (ok r3 0)
  (.test (decide (ByteArray.size v1 + ByteArray.size (uS (out r3 0) 0) ≤ 9223372036854775807))
  (.test (inR v2 (ln v0))
  (.test (cI (el v0 v2) 1 != (1 : Int))
  (.test (inR v2 (ln v0))
  (let r4 : Rs := (Rt.res (m_zav [U.i (cI (el v0 v2) 1)]))
  (.test (ok r4 0)
  (.test (decide (1 + ByteArray.size (uS (out r4 0) 0) ≤ 9223372036854775807))
  (.test (decide (ByteArray.size (v1 ++ uS (out r3 0) 0) + ByteArray.size ({ data := #[(42 : UInt8)] } ++ uS (out r4 0) 0) ≤ 9223372036854775807))
  (.next [.l v0, .s (v1 ++ uS (out r3 0) 0 ++ ({ data := #[(42 : UInt8)] } ++ uS (out r4 0) 0)), .i (w64 (v2 + (1 : Int)))])
  .fail)
  .fail)
  .fail))
  .fail)
  (.next [.l v0, .s (v1 ++ uS (out r3 0) 0), .i (w64 (v2 + (1 : Int)))]))
  .fail)
  .fail)
  .fail))
  .fail))
  (.stop 0 [.s v1]))
  .fail))
  (.stop 0 [.s v1]))
 | _ => .fail
def sp_zay_41_3 : LSp := ⟨43, ⟨[(0, .one (.l 49)), (3, .one (.s)), (4, .one (.i .i64))], []⟩, [(.exit 0, ⟨[(3, .one (.s))], []⟩)]⟩
set_option maxRecDepth 100000 in
theorem rq_zay_41_3 (v0 : List (List PV)) (v1 : ByteArray) (v2 : Int) : runK br Tryz.prog (callK br Tryz.prog X138 M_zay L_zay (lsT []) 40) M_zay (lsT [] 41 0) 40 0 (L_zay 41) (bodyOf Tryz.prog 41 3) (sp_zay_41_3.s.ts sp_zay_41_3.n [.l v0, .s v1, .i v2]) (sp_zay_41_3.s.h [.l v0, .s v1, .i v2]) (idc Tryz.prog 0 (L_zay 41) 3) =
  (rd_zay_41_3 [.l v0, .s v1, .i v2]).go br (fun us' => some (.normal, sp_zay_41_3.s.ts sp_zay_41_3.n us', sp_zay_41_3.s.h us')) sp_zay_41_3.fin := by
 rw [← callF_eq, ← runF_eq]; kernel_rfl
theorem lo_zay_41_3 {R : Type} : LoopTells Tryz.prog X138 M_zay L_zay 0 (L_zay 41) (bodyOf Tryz.prog 41 3) (gL (R := R) sp_zay_41_3 rd_zay_41_3 br) :=
 loopTold (callK_ev (loopsOK_list rids noneIn) 40) (lsokIn (loopsOK_list rids noneIn) 41 0 3) (by kernel_rfl) sp_zay_41_3 rd_zay_41_3 rfl (by kernel_rfl) (by
  intro us v h; unfold rd_zay_41_3 at h; split at h
  ·rename_i v0 v1 v2; exact rq_zay_41_3 v0 v1 v2
  ·cases h)
noncomputable abbrev ll_zay_41_3 {R : Type} : List (Nat × Nat × Nat × Smy R) := (41, 0, 3, gL sp_zay_41_3 rd_zay_41_3 br) :: []
theorem lk_zay_41_3 {R : Type} : ∀ e ∈ ll_zay_41_3 (R := R), LoopTells Tryz.prog X138 M_zay L_zay e.2.1 (L_zay e.1) (bodyOf Tryz.prog e.1 e.2.2.1) e.2.2.2 := List.forall_mem_cons.2 ⟨lo_zay_41_3, noneIn⟩
def S_zay : FSp := ⟨[.one (.l 49)], [], [], [([.one (.s)], [])]⟩
noncomputable def m_zay : List U → Rt
 | [.l v0] =>
  (let r0 : Rs := (lres rd_zay_41_3 [U.l v0, U.s { data := #[] }, U.i (0 : Int)])
  (.test (ok r0 0)
  (.stop 0 [.s (uS (out r0 0) 0)])
  .fail))
 | _ => .fail
set_option maxRecDepth 100000 in
theorem q_zay (v0 : List (List PV)) : callK br Tryz.prog X138 M_zay L_zay (lsT ll_zay_41_3) 60 41 (encs [.l v0] 0 S_zay.ap) (encH [.l v0] (ws S_zay.ap) S_zay.ah) (fun y => fixR Tryz.prog S_zay.plan S_zay.ah.length y) =
  (m_zay [.l v0]).go br (fun _ => none) S_zay.fin := by
 rw [← callF_eq]; kernel_rfl
theorem e_zay : EOK Tryz.prog 41 (gF S_zay m_zay) :=
 eokTold mixed named x138 (loopsOK_list rids lk_zay_41_3) 60 S_zay m_zay (by
  intro us v h; unfold m_zay at h; split at h
  ·rename_i v0; exact q_zay v0
  ·cases h) false
noncomputable abbrev X139 : Ext := extT [(41, (gF S_zay m_zay))] X138
theorem x139 : XOK Tryz.prog X139 := xok1 x138 e_zay

/-- levee/leveeref05.Both -/
def L_zba : FuncId → Nat → Option (List Nat) := liveT [(26, 2, [100000000, 1, 5]), (26, 1000002, [0]), (26, 2000002, [4])]
def M_zba : FuncId → Bool := fun _ => false
noncomputable def rd_zba_26_2 : List U → Rt
 | [.l v0, .l v1, .i v2] =>
  (.test (decide (v2 < ln v1))
  (.test (inR v2 (ln v1))
  (.test (inR v2 (ln v1))
  (let r0 : Rs := (Rt.res (m_zan [U.l v0, U.l (cL (el v1 v2) 0), U.i (cI (el v1 v2) 1)]))
  (.test (ok r0 0)
  (.next [.l (uL (out r0 0) 0), .l v1, .i (w64 (v2 + (1 : Int)))])
  .fail))
  .fail)
  .fail)
  (.stop 0 [.l v0]))
 | _ => .fail
def sp_zba_26_2 : LSp := ⟨25, ⟨[(0, .one (.l 49)), (1, .one (.l 49)), (5, .one (.i .i64))], []⟩, [(.exit 0, ⟨[(0, .one (.l 49))], []⟩)]⟩
set_option maxRecDepth 100000 in
theorem rq_zba_26_2 (v0 v1 : List (List PV)) (v2 : Int) : runK br Tryz.prog (callK br Tryz.prog X139 M_zba L_zba (lsT []) 40) M_zba (lsT [] 26 0) 40 0 (L_zba 26) (bodyOf Tryz.prog 26 2) (sp_zba_26_2.s.ts sp_zba_26_2.n [.l v0, .l v1, .i v2]) (sp_zba_26_2.s.h [.l v0, .l v1, .i v2]) (idc Tryz.prog 0 (L_zba 26) 2) =
  (rd_zba_26_2 [.l v0, .l v1, .i v2]).go br (fun us' => some (.normal, sp_zba_26_2.s.ts sp_zba_26_2.n us', sp_zba_26_2.s.h us')) sp_zba_26_2.fin := by
 rw [← callF_eq, ← runF_eq]; kernel_rfl
theorem lo_zba_26_2 {R : Type} : LoopTells Tryz.prog X139 M_zba L_zba 0 (L_zba 26) (bodyOf Tryz.prog 26 2) (gL (R := R) sp_zba_26_2 rd_zba_26_2 br) :=
 loopTold (callK_ev (loopsOK_list rids noneIn) 40) (lsokIn (loopsOK_list rids noneIn) 26 0 2) (by kernel_rfl) sp_zba_26_2 rd_zba_26_2 rfl (by kernel_rfl) (by
  intro us v h; unfold rd_zba_26_2 at h; split at h
  ·rename_i v0 v1 v2; exact rq_zba_26_2 v0 v1 v2
  ·cases h)
noncomputable abbrev ll_zba_26_2 {R : Type} : List (Nat × Nat × Nat × Smy R) := (26, 0, 2, gL sp_zba_26_2 rd_zba_26_2 br) :: []
theorem lk_zba_26_2 {R : Type} : ∀ e ∈ ll_zba_26_2 (R := R), LoopTells Tryz.prog X139 M_zba L_zba e.2.1 (L_zba e.1) (bodyOf Tryz.prog e.1 e.2.2.1) e.2.2.2 := List.forall_mem_cons.2 ⟨lo_zba_26_2, noneIn⟩
def S_zba : FSp := ⟨[.one (.l 49), .one (.l 49)], [], [], [([.one (.l 49)], [])]⟩
noncomputable def m_zba : List U → Rt
 | [.l v0, .l v1] =>
  (let r0 : Rs := (lres rd_zba_26_2 [U.l v0, U.l v1, U.i (0 : Int)])
  (.test (ok r0 0)
  (.stop 0 [.l (uL (out r0 0) 0)])
  .fail))
 | _ => .fail
set_option maxRecDepth 100000 in
theorem q_zba (v0 v1 : List (List PV)) : callK br Tryz.prog X139 M_zba L_zba (lsT ll_zba_26_2) 60 26 (encs [.l v0, .l v1] 0 S_zba.ap) (encH [.l v0, .l v1] (ws S_zba.ap) S_zba.ah) (fun y => fixR Tryz.prog S_zba.plan S_zba.ah.length y) =
  (m_zba [.l v0, .l v1]).go br (fun _ => none) S_zba.fin := by
 rw [← callF_eq]; kernel_rfl
theorem e_zba : EOK Tryz.prog 26 (gF S_zba m_zba) :=
 eokTold mixed named x139 (loopsOK_list rids lk_zba_26_2) 60 S_zba m_zba (by
  intro us v h; unfold m_zba at h; split at h
  ·rename_i v0 v1; exact q_zba v0 v1
  ·cases h) false
noncomputable abbrev X142 : Ext := extT [(26, (gF S_zba m_zba))] X139
theorem x142 : XOK Tryz.prog X142 := xok1 x139 e_zba

/-- levee/leveeref02.Short -/
def L_zbb : FuncId → Nat → Option (List Nat) := liveT [(38, 2, [0, 3]), (38, 1000002, [0]), (38, 2000002, [2])]
def M_zbb : FuncId → Bool := fun _ => false
noncomputable def rd_zbb_38_2 : List U → Rt
 | [.l v0, .i v1] =>
  (.test (decide (v1 < ln v0))
  (.test (inR v1 (ln v0))
  (.test (decide ((↑(ByteArray.size (cS (el v0 v1) 2)) : Int) > (1000 : Int)))
  (.stop 0 [.b false])
  (.next [.l v0, .i (w64 (v1 + (1 : Int)))]))
  .fail)
  (.stop 1 [.l v0]))
 | _ => .fail
def sp_zbb_38_2 : LSp := ⟨20, ⟨[(0, .one (.l 39)), (3, .one (.i .i64))], []⟩, [(.ret, ⟨[(2, .one (.b))], []⟩), (.exit 0, ⟨[(0, .one (.l 39))], []⟩)]⟩
set_option maxRecDepth 100000 in
theorem rq_zbb_38_2 (v0 : List (List PV)) (v1 : Int) : runK br Tryz.prog (callK br Tryz.prog X142 M_zbb L_zbb (lsT []) 40) M_zbb (lsT [] 38 0) 40 0 (L_zbb 38) (bodyOf Tryz.prog 38 2) (sp_zbb_38_2.s.ts sp_zbb_38_2.n [.l v0, .i v1]) (sp_zbb_38_2.s.h [.l v0, .i v1]) (idc Tryz.prog 0 (L_zbb 38) 2) =
  (rd_zbb_38_2 [.l v0, .i v1]).go br (fun us' => some (.normal, sp_zbb_38_2.s.ts sp_zbb_38_2.n us', sp_zbb_38_2.s.h us')) sp_zbb_38_2.fin := by
 rw [← callF_eq, ← runF_eq]; kernel_rfl
theorem lo_zbb_38_2 {R : Type} : LoopTells Tryz.prog X142 M_zbb L_zbb 0 (L_zbb 38) (bodyOf Tryz.prog 38 2) (gL (R := R) sp_zbb_38_2 rd_zbb_38_2 br) :=
 loopTold (callK_ev (loopsOK_list rids noneIn) 40) (lsokIn (loopsOK_list rids noneIn) 38 0 2) (by kernel_rfl) sp_zbb_38_2 rd_zbb_38_2 rfl (by kernel_rfl) (by
  intro us v h; unfold rd_zbb_38_2 at h; split at h
  ·rename_i v0 v1; exact rq_zbb_38_2 v0 v1
  ·cases h)
noncomputable abbrev ll_zbb_38_2 {R : Type} : List (Nat × Nat × Nat × Smy R) := (38, 0, 2, gL sp_zbb_38_2 rd_zbb_38_2 br) :: []
theorem lk_zbb_38_2 {R : Type} : ∀ e ∈ ll_zbb_38_2 (R := R), LoopTells Tryz.prog X142 M_zbb L_zbb e.2.1 (L_zbb e.1) (bodyOf Tryz.prog e.1 e.2.2.1) e.2.2.2 := List.forall_mem_cons.2 ⟨lo_zbb_38_2, noneIn⟩
def S_zbb : FSp := ⟨[.one (.l 39)], [], [], [([.one (.b)], [])]⟩
noncomputable def m_zbb : List U → Rt
 | [.l v0] =>
  (let r0 : Rs := (lres rd_zbb_38_2 [U.l v0, U.i (0 : Int)])
  (.test (ok r0 0)
  (.stop 0 [.b (uB (out r0 0) 0)])
  (.test (ok r0 1)
  (.stop 0 [.b (decide (ln (uL (out r0 1) 0) ≤ (40 : Int)))])
  .fail)))
 | _ => .fail
set_option maxRecDepth 100000 in
theorem q_zbb (v0 : List (List PV)) : callK br Tryz.prog X142 M_zbb L_zbb (lsT ll_zbb_38_2) 60 38 (encs [.l v0] 0 S_zbb.ap) (encH [.l v0] (ws S_zbb.ap) S_zbb.ah) (fun y => fixR Tryz.prog S_zbb.plan S_zbb.ah.length y) =
  (m_zbb [.l v0]).go br (fun _ => none) S_zbb.fin := by
 rw [← callF_eq]; kernel_rfl
theorem e_zbb : EOK Tryz.prog 38 (gF S_zbb m_zbb) :=
 eokTold mixed named x142 (loopsOK_list rids lk_zbb_38_2) 60 S_zbb m_zbb (by
  intro us v h; unfold m_zbb at h; split at h
  ·rename_i v0; exact q_zbb v0
  ·cases h) false
noncomputable abbrev X144 : Ext := extT [(38, (gF S_zbb m_zbb))] X142
theorem x144 : XOK Tryz.prog X144 := xok1 x142 e_zbb

/-- levee/leveeref05.Small -/
def L_zbc : FuncId → Nat → Option (List Nat) := liveT [(13, 2, [0, 3]), (13, 1000002, [0]), (13, 2000002, [2])]
def M_zbc : FuncId → Bool := fun _ => false
noncomputable def rd_zbc_13_2 : List U → Rt
 | [.l v0, .i v1] =>
  (.test (decide (v1 < ln v0))
  (.test (inR v1 (ln v0))
  (let r0 : Rs := (Rt.res (m_zbb [U.l (cL (el v0 v1) 0)]))
  (.test (ok r0 0)
  (.test (!uB (out r0 0) 0)
  (.stop 0 [.b false])
  (.next [.l v0, .i (w64 (v1 + (1 : Int)))]))
  .fail))
  .fail)
  (.stop 1 [.l v0]))
 | _ => .fail
def sp_zbc_13_2 : LSp := ⟨20, ⟨[(0, .one (.l 49)), (3, .one (.i .i64))], []⟩, [(.ret, ⟨[(2, .one (.b))], []⟩), (.exit 0, ⟨[(0, .one (.l 49))], []⟩)]⟩
set_option maxRecDepth 100000 in
theorem rq_zbc_13_2 (v0 : List (List PV)) (v1 : Int) : runK br Tryz.prog (callK br Tryz.prog X144 M_zbc L_zbc (lsT []) 40) M_zbc (lsT [] 13 0) 40 0 (L_zbc 13) (bodyOf Tryz.prog 13 2) (sp_zbc_13_2.s.ts sp_zbc_13_2.n [.l v0, .i v1]) (sp_zbc_13_2.s.h [.l v0, .i v1]) (idc Tryz.prog 0 (L_zbc 13) 2) =
  (rd_zbc_13_2 [.l v0, .i v1]).go br (fun us' => some (.normal, sp_zbc_13_2.s.ts sp_zbc_13_2.n us', sp_zbc_13_2.s.h us')) sp_zbc_13_2.fin := by
 rw [← callF_eq, ← runF_eq]; kernel_rfl
theorem lo_zbc_13_2 {R : Type} : LoopTells Tryz.prog X144 M_zbc L_zbc 0 (L_zbc 13) (bodyOf Tryz.prog 13 2) (gL (R := R) sp_zbc_13_2 rd_zbc_13_2 br) :=
 loopTold (callK_ev (loopsOK_list rids noneIn) 40) (lsokIn (loopsOK_list rids noneIn) 13 0 2) (by kernel_rfl) sp_zbc_13_2 rd_zbc_13_2 rfl (by kernel_rfl) (by
  intro us v h; unfold rd_zbc_13_2 at h; split at h
  ·rename_i v0 v1; exact rq_zbc_13_2 v0 v1
  ·cases h)
noncomputable abbrev ll_zbc_13_2 {R : Type} : List (Nat × Nat × Nat × Smy R) := (13, 0, 2, gL sp_zbc_13_2 rd_zbc_13_2 br) :: []
theorem lk_zbc_13_2 {R : Type} : ∀ e ∈ ll_zbc_13_2 (R := R), LoopTells Tryz.prog X144 M_zbc L_zbc e.2.1 (L_zbc e.1) (bodyOf Tryz.prog e.1 e.2.2.1) e.2.2.2 := List.forall_mem_cons.2 ⟨lo_zbc_13_2, noneIn⟩
def S_zbc : FSp := ⟨[.one (.l 49)], [], [], [([.one (.b)], [])]⟩
noncomputable def m_zbc : List U → Rt
 | [.l v0] =>
  (let r0 : Rs := (lres rd_zbc_13_2 [U.l v0, U.i (0 : Int)])
  (.test (ok r0 0)
  (.stop 0 [.b (uB (out r0 0) 0)])
  (.test (ok r0 1)
  (.stop 0 [.b (decide (ln (uL (out r0 1) 0) ≤ (60 : Int)))])
  .fail)))
 | _ => .fail
set_option maxRecDepth 100000 in
theorem q_zbc (v0 : List (List PV)) : callK br Tryz.prog X144 M_zbc L_zbc (lsT ll_zbc_13_2) 60 13 (encs [.l v0] 0 S_zbc.ap) (encH [.l v0] (ws S_zbc.ap) S_zbc.ah) (fun y => fixR Tryz.prog S_zbc.plan S_zbc.ah.length y) =
  (m_zbc [.l v0]).go br (fun _ => none) S_zbc.fin := by
 rw [← callF_eq]; kernel_rfl
theorem e_zbc : EOK Tryz.prog 13 (gF S_zbc m_zbc) :=
 eokTold mixed named x144 (loopsOK_list rids lk_zbc_13_2) 60 S_zbc m_zbc (by
  intro us v h; unfold m_zbc at h; split at h
  ·rename_i v0; exact q_zbc v0
  ·cases h) false
noncomputable abbrev X145 : Ext := extT [(13, (gF S_zbc m_zbc))] X144
theorem x145 : XOK Tryz.prog X145 := xok1 x144 e_zbc

/-- levee/leveeref11.Right -/
def L_zbd : FuncId → Nat → Option (List Nat) := liveT [(20, 4, [0, 3]), (20, 1000004, [0]), (20, 2000004, [2]), (20, 10, [0, 4, 5]), (20, 1000010, []), (20, 2000010, [2])]
def M_zbd : FuncId → Bool := fun _ => false
noncomputable def rd_zbd_20_4 : List U → Rt
 | [.l v0, .i v1] =>
  (.test (decide (v1 < ln v0))
  (.test (inR v1 (ln v0))
  (.test (decide (cI (el v0 v1) 1 < (0 : Int)))
  (.stop 0 [.i ((1 : Int))])
  (.next [.l v0, .i (w64 (v1 + (1 : Int)))]))
  .fail)
  (.stop 1 [.l v0]))
 | _ => .fail
def sp_zbd_20_4 : LSp := ⟨36, ⟨[(0, .one (.l 49)), (3, .one (.i .i64))], []⟩, [(.ret, ⟨[(2, .one (.i .i64))], []⟩), (.exit 0, ⟨[(0, .one (.l 49))], []⟩)]⟩
set_option maxRecDepth 100000 in
theorem rq_zbd_20_4 (v0 : List (List PV)) (v1 : Int) : runK br Tryz.prog (callK br Tryz.prog X145 M_zbd L_zbd (lsT []) 40) M_zbd (lsT [] 20 0) 40 0 (L_zbd 20) (bodyOf Tryz.prog 20 4) (sp_zbd_20_4.s.ts sp_zbd_20_4.n [.l v0, .i v1]) (sp_zbd_20_4.s.h [.l v0, .i v1]) (idc Tryz.prog 0 (L_zbd 20) 4) =
  (rd_zbd_20_4 [.l v0, .i v1]).go br (fun us' => some (.normal, sp_zbd_20_4.s.ts sp_zbd_20_4.n us', sp_zbd_20_4.s.h us')) sp_zbd_20_4.fin := by
 rw [← callF_eq, ← runF_eq]; kernel_rfl
theorem lo_zbd_20_4 {R : Type} : LoopTells Tryz.prog X145 M_zbd L_zbd 0 (L_zbd 20) (bodyOf Tryz.prog 20 4) (gL (R := R) sp_zbd_20_4 rd_zbd_20_4 br) :=
 loopTold (callK_ev (loopsOK_list rids noneIn) 40) (lsokIn (loopsOK_list rids noneIn) 20 0 4) (by kernel_rfl) sp_zbd_20_4 rd_zbd_20_4 rfl (by kernel_rfl) (by
  intro us v h; unfold rd_zbd_20_4 at h; split at h
  ·rename_i v0 v1; exact rq_zbd_20_4 v0 v1
  ·cases h)
noncomputable abbrev ll_zbd_20_4 {R : Type} : List (Nat × Nat × Nat × Smy R) := (20, 0, 4, gL sp_zbd_20_4 rd_zbd_20_4 br) :: []
theorem lk_zbd_20_4 {R : Type} : ∀ e ∈ ll_zbd_20_4 (R := R), LoopTells Tryz.prog X145 M_zbd L_zbd e.2.1 (L_zbd e.1) (bodyOf Tryz.prog e.1 e.2.2.1) e.2.2.2 := List.forall_mem_cons.2 ⟨lo_zbd_20_4, noneIn⟩
noncomputable def rd_zbd_20_10 : List U → Rt
 | [.l v0, .i v1, .i v2] =>
  (.test (decide (v2 < ln v0))
  (.test (inR v2 (ln v0))
  (.test (decide (w64 (v1 + cI (el v0 v2) 1) > (100000 : Int)))
  (.stop 0 [.i ((100 : Int))])
  (.next [.l v0, .i (w64 (v1 + cI (el v0 v2) 1)), .i (w64 (v2 + (1 : Int)))]))
  .fail)
  (.stop 1 []))
 | _ => .fail
def sp_zbd_20_10 : LSp := ⟨36, ⟨[(0, .one (.l 49)), (4, .one (.i .i64)), (5, .one (.i .i64))], []⟩, [(.ret, ⟨[(2, .one (.i .i64))], []⟩), (.exit 2, ⟨[], []⟩)]⟩
set_option maxRecDepth 100000 in
theorem rq_zbd_20_10 (v0 : List (List PV)) (v1 v2 : Int) : runK br Tryz.prog (callK br Tryz.prog X145 M_zbd L_zbd (lsT ll_zbd_20_4) 40) M_zbd (lsT ll_zbd_20_4 20 0) 40 0 (L_zbd 20) (bodyOf Tryz.prog 20 10) (sp_zbd_20_10.s.ts sp_zbd_20_10.n [.l v0, .i v1, .i v2]) (sp_zbd_20_10.s.h [.l v0, .i v1, .i v2]) (idc Tryz.prog 0 (L_zbd 20) 10) =
  (rd_zbd_20_10 [.l v0, .i v1, .i v2]).go br (fun us' => some (.normal, sp_zbd_20_10.s.ts sp_zbd_20_10.n us', sp_zbd_20_10.s.h us')) sp_zbd_20_10.fin := by
 rw [← callF_eq, ← runF_eq]; kernel_rfl
theorem lo_zbd_20_10 {R : Type} : LoopTells Tryz.prog X145 M_zbd L_zbd 0 (L_zbd 20) (bodyOf Tryz.prog 20 10) (gL (R := R) sp_zbd_20_10 rd_zbd_20_10 br) :=
 loopTold (callK_ev (loopsOK_list rids lk_zbd_20_4) 40) (lsokIn (loopsOK_list rids lk_zbd_20_4) 20 0 10) (by kernel_rfl) sp_zbd_20_10 rd_zbd_20_10 rfl (by kernel_rfl) (by
  intro us v h; unfold rd_zbd_20_10 at h; split at h
  ·rename_i v0 v1 v2; exact rq_zbd_20_10 v0 v1 v2
  ·cases h)
noncomputable abbrev ll_zbd_20_10 {R : Type} : List (Nat × Nat × Nat × Smy R) := (20, 0, 10, gL sp_zbd_20_10 rd_zbd_20_10 br) :: ll_zbd_20_4
theorem lk_zbd_20_10 {R : Type} : ∀ e ∈ ll_zbd_20_10 (R := R), LoopTells Tryz.prog X145 M_zbd L_zbd e.2.1 (L_zbd e.1) (bodyOf Tryz.prog e.1 e.2.2.1) e.2.2.2 := List.forall_mem_cons.2 ⟨lo_zbd_20_10, lk_zbd_20_4⟩
def S_zbd : FSp := ⟨[.one (.l 49)], [], [], [([.one (.i .i64)], [])]⟩
noncomputable def m_zbd : List U → Rt
 | [.l v0] =>
  (let r0 : Rs := (Rt.res (m_zas [U.l v0]))
  (.test (ok r0 0)
  (.test (!uB (out r0 0) 0)
  (.stop 0 [.i ((1 : Int))])
  (let r1 : Rs := (lres rd_zbd_20_4 [U.l v0, U.i (0 : Int)])
  (.test (ok r1 0)
  (.stop 0 [.i (uI (out r1 0) 0)])
  (.test (ok r1 1)
  (let r2 : Rs := (lres rd_zbd_20_10 [U.l (uL (out r1 1) 0), U.i (0 : Int), U.i (0 : Int)])
  (.test (ok r2 0)
  (.stop 0 [.i (uI (out r2 0) 0)])
  (.test (ok r2 1)
  (.stop 0 [.i ((0 : Int))])
  .fail)))
  .fail))))
  .fail))
 | _ => .fail
set_option maxRecDepth 100000 in
theorem q_zbd (v0 : List (List PV)) : callK br Tryz.prog X145 M_zbd L_zbd (lsT ll_zbd_20_10) 60 20 (encs [.l v0] 0 S_zbd.ap) (encH [.l v0] (ws S_zbd.ap) S_zbd.ah) (fun y => fixR Tryz.prog S_zbd.plan S_zbd.ah.length y) =
  (m_zbd [.l v0]).go br (fun _ => none) S_zbd.fin := by
 rw [← callF_eq]; kernel_rfl
theorem e_zbd : EOK Tryz.prog 20 (gF S_zbd m_zbd) :=
 eokTold mixed named x145 (loopsOK_list rids lk_zbd_20_10) 60 S_zbd m_zbd (by
  intro us v h; unfold m_zbd at h; split at h
  ·rename_i v0; exact q_zbd v0
  ·cases h) false
noncomputable abbrev X146 : Ext := extT [(20, (gF S_zbd m_zbd))] X145
theorem x146 : XOK Tryz.prog X146 := xok1 x145 e_zbd

/-- levee/leveeref05.Same -/
def L_zbl : FuncId → Nat → Option (List Nat) := liveT [(19, 4, [0, 1, 5]), (19, 1000004, []), (19, 2000004, [4])]
def M_zbl : FuncId → Bool := fun _ => false
noncomputable def rd_zbl_19_4 : List U → Rt
 | [.l v0, .l v1, .i v2] =>
  (.test (decide (v2 < ln v0))
  (.test (inR v2 (ln v0))
  (.test (inR v2 (ln v1))
  (.test (cI (el v0 v2) 1 != cI (el v1 v2) 1)
  (.stop 0 [.b false])
  (.test (inR v2 (ln v0))
  (.test (inR v2 (ln v1))
  (let r0 : Rs := (Rt.res (m_zam [U.l (cL (el v0 v2) 0), U.l (cL (el v1 v2) 0)]))
  (.test (ok r0 0)
  (.test (uI (out r0 0) 0 != (0 : Int))
  (.stop 0 [.b false])
  (.next [.l v0, .l v1, .i (w64 (v2 + (1 : Int)))]))
  .fail))
  .fail)
  .fail))
  .fail)
  .fail)
  (.stop 1 []))
 | _ => .fail
def sp_zbl_19_4 : LSp := ⟨42, ⟨[(0, .one (.l 49)), (1, .one (.l 49)), (5, .one (.i .i64))], []⟩, [(.ret, ⟨[(4, .one (.b))], []⟩), (.exit 0, ⟨[], []⟩)]⟩
set_option maxRecDepth 100000 in
theorem rq_zbl_19_4 (v0 v1 : List (List PV)) (v2 : Int) : runK br Tryz.prog (callK br Tryz.prog X146 M_zbl L_zbl (lsT []) 40) M_zbl (lsT [] 19 0) 40 0 (L_zbl 19) (bodyOf Tryz.prog 19 4) (sp_zbl_19_4.s.ts sp_zbl_19_4.n [.l v0, .l v1, .i v2]) (sp_zbl_19_4.s.h [.l v0, .l v1, .i v2]) (idc Tryz.prog 0 (L_zbl 19) 4) =
  (rd_zbl_19_4 [.l v0, .l v1, .i v2]).go br (fun us' => some (.normal, sp_zbl_19_4.s.ts sp_zbl_19_4.n us', sp_zbl_19_4.s.h us')) sp_zbl_19_4.fin := by
 rw [← callF_eq, ← runF_eq]; kernel_rfl
theorem lo_zbl_19_4 {R : Type} : LoopTells Tryz.prog X146 M_zbl L_zbl 0 (L_zbl 19) (bodyOf Tryz.prog 19 4) (gL (R := R) sp_zbl_19_4 rd_zbl_19_4 br) :=
 loopTold (callK_ev (loopsOK_list rids noneIn) 40) (lsokIn (loopsOK_list rids noneIn) 19 0 4) (by kernel_rfl) sp_zbl_19_4 rd_zbl_19_4 rfl (by kernel_rfl) (by
  intro us v h; unfold rd_zbl_19_4 at h; split at h
  ·rename_i v0 v1 v2; exact rq_zbl_19_4 v0 v1 v2
  ·cases h)
noncomputable abbrev ll_zbl_19_4 {R : Type} : List (Nat × Nat × Nat × Smy R) := (19, 0, 4, gL sp_zbl_19_4 rd_zbl_19_4 br) :: []
theorem lk_zbl_19_4 {R : Type} : ∀ e ∈ ll_zbl_19_4 (R := R), LoopTells Tryz.prog X146 M_zbl L_zbl e.2.1 (L_zbl e.1) (bodyOf Tryz.prog e.1 e.2.2.1) e.2.2.2 := List.forall_mem_cons.2 ⟨lo_zbl_19_4, noneIn⟩
def S_zbl : FSp := ⟨[.one (.l 49), .one (.l 49)], [], [], [([.one (.b)], [])]⟩
noncomputable def m_zbl : List U → Rt
 | [.l v0, .l v1] =>
  (.test (ln v0 != ln v1)
  (.stop 0 [.b false])
  (let r0 : Rs := (lres rd_zbl_19_4 [U.l v0, U.l v1, U.i (0 : Int)])
  (.test (ok r0 0)
  (.stop 0 [.b (uB (out r0 0) 0)])
  (.test (ok r0 1)
  (.stop 0 [.b true])
  .fail))))
 | _ => .fail
set_option maxRecDepth 100000 in
theorem q_zbl (v0 v1 : List (List PV)) : callK br Tryz.prog X146 M_zbl L_zbl (lsT ll_zbl_19_4) 60 19 (encs [.l v0, .l v1] 0 S_zbl.ap) (encH [.l v0, .l v1] (ws S_zbl.ap) S_zbl.ah) (fun y => fixR Tryz.prog S_zbl.plan S_zbl.ah.length y) =
  (m_zbl [.l v0, .l v1]).go br (fun _ => none) S_zbl.fin := by
 rw [← callF_eq]; kernel_rfl
theorem e_zbl : EOK Tryz.prog 19 (gF S_zbl m_zbl) :=
 eokTold mixed named x146 (loopsOK_list rids lk_zbl_19_4) 60 S_zbl m_zbl (by
  intro us v h; unfold m_zbl at h; split at h
  ·rename_i v0 v1; exact q_zbl v0 v1
  ·cases h) false
noncomputable abbrev X154 : Ext := extT [(19, (gF S_zbl m_zbl))] X146
theorem x154 : XOK Tryz.prog X154 := xok1 x146 e_zbl

/-- levee/leveeref10.Low -/
def L_zbm : FuncId → Nat → Option (List Nat) := liveT [(25, 2, [0, 3]), (25, 1000002, [0]), (25, 2000002, [2])]
def M_zbm : FuncId → Bool := fun _ => false
noncomputable def rd_zbm_25_2 : List U → Rt
 | [.l v0, .i v1] =>
  (.test (decide (v1 < ln v0))
  (.test (inR v1 (ln v0))
  (.test (decide (cI (el v0 v1) 1 > (1000 : Int)))
  (.stop 0 [.b false])
  (.test (inR v1 (ln v0))
  (.test (decide (cI (el v0 v1) 1 < (-1000 : Int)))
  (.stop 0 [.b false])
  (.next [.l v0, .i (w64 (v1 + (1 : Int)))]))
  .fail))
  .fail)
  (.stop 1 [.l v0]))
 | _ => .fail
def sp_zbm_25_2 : LSp := ⟨26, ⟨[(0, .one (.l 49)), (3, .one (.i .i64))], []⟩, [(.ret, ⟨[(2, .one (.b))], []⟩), (.exit 0, ⟨[(0, .one (.l 49))], []⟩)]⟩
set_option maxRecDepth 100000 in
theorem rq_zbm_25_2 (v0 : List (List PV)) (v1 : Int) : runK br Tryz.prog (callK br Tryz.prog X154 M_zbm L_zbm (lsT []) 40) M_zbm (lsT [] 25 0) 40 0 (L_zbm 25) (bodyOf Tryz.prog 25 2) (sp_zbm_25_2.s.ts sp_zbm_25_2.n [.l v0, .i v1]) (sp_zbm_25_2.s.h [.l v0, .i v1]) (idc Tryz.prog 0 (L_zbm 25) 2) =
  (rd_zbm_25_2 [.l v0, .i v1]).go br (fun us' => some (.normal, sp_zbm_25_2.s.ts sp_zbm_25_2.n us', sp_zbm_25_2.s.h us')) sp_zbm_25_2.fin := by
 rw [← callF_eq, ← runF_eq]; kernel_rfl
theorem lo_zbm_25_2 {R : Type} : LoopTells Tryz.prog X154 M_zbm L_zbm 0 (L_zbm 25) (bodyOf Tryz.prog 25 2) (gL (R := R) sp_zbm_25_2 rd_zbm_25_2 br) :=
 loopTold (callK_ev (loopsOK_list rids noneIn) 40) (lsokIn (loopsOK_list rids noneIn) 25 0 2) (by kernel_rfl) sp_zbm_25_2 rd_zbm_25_2 rfl (by kernel_rfl) (by
  intro us v h; unfold rd_zbm_25_2 at h; split at h
  ·rename_i v0 v1; exact rq_zbm_25_2 v0 v1
  ·cases h)
noncomputable abbrev ll_zbm_25_2 {R : Type} : List (Nat × Nat × Nat × Smy R) := (25, 0, 2, gL sp_zbm_25_2 rd_zbm_25_2 br) :: []
theorem lk_zbm_25_2 {R : Type} : ∀ e ∈ ll_zbm_25_2 (R := R), LoopTells Tryz.prog X154 M_zbm L_zbm e.2.1 (L_zbm e.1) (bodyOf Tryz.prog e.1 e.2.2.1) e.2.2.2 := List.forall_mem_cons.2 ⟨lo_zbm_25_2, noneIn⟩
def S_zbm : FSp := ⟨[.one (.l 49)], [], [], [([.one (.b)], [])]⟩
noncomputable def m_zbm : List U → Rt
 | [.l v0] =>
  (let r0 : Rs := (lres rd_zbm_25_2 [U.l v0, U.i (0 : Int)])
  (.test (ok r0 0)
  (.stop 0 [.b (uB (out r0 0) 0)])
  (.test (ok r0 1)
  (let r1 : Rs := (Rt.res (m_zbc [U.l (uL (out r0 1) 0)]))
  (.test (ok r1 0)
  (.stop 0 [.b (uB (out r1 0) 0)])
  .fail))
  .fail)))
 | _ => .fail
set_option maxRecDepth 100000 in
theorem q_zbm (v0 : List (List PV)) : callK br Tryz.prog X154 M_zbm L_zbm (lsT ll_zbm_25_2) 60 25 (encs [.l v0] 0 S_zbm.ap) (encH [.l v0] (ws S_zbm.ap) S_zbm.ah) (fun y => fixR Tryz.prog S_zbm.plan S_zbm.ah.length y) =
  (m_zbm [.l v0]).go br (fun _ => none) S_zbm.fin := by
 rw [← callF_eq]; kernel_rfl
theorem e_zbm : EOK Tryz.prog 25 (gF S_zbm m_zbm) :=
 eokTold mixed named x154 (loopsOK_list rids lk_zbm_25_2) 60 S_zbm m_zbm (by
  intro us v h; unfold m_zbm at h; split at h
  ·rename_i v0; exact q_zbm v0
  ·cases h) false
noncomputable abbrev X158 : Ext := extT [(25, (gF S_zbm m_zbm))] X154
theorem x158 : XOK Tryz.prog X158 := xok1 x154 e_zbm

/-- levee/leveelaw14.small -/
def L_zbs : FuncId → Nat → Option (List Nat) := liveT []
def M_zbs : FuncId → Bool := fun _ => false
def S_zbs : FSp := ⟨[.agg [.s, .s, .s, .i .i64, .i .i64, .l 192, .l 3, .b, .l 32], .one (.l 49), .one (.l 49)], [], [], [([.one (.b)], [])]⟩
noncomputable def m_zbs : List U → Rt
 | [.s v0, .s v1, .s v2, .i v3, .i v4, .l v5, .l v6, .b v7, .l v8, .l v9, .l v10] =>
  (let r0 : Rs := (Rt.res (m_zbm [U.l v9]))
  (.test (ok r0 0)
  (.test (uB (out r0 0) 0)
  (let r1 : Rs := (Rt.res (m_zbm [U.l v10]))
  (.test (ok r1 0)
  (.test (uB (out r1 0) 0)
  (.test (decide (ln v6 ≤ (30 : Int)))
  (.stop 0 [.b (decide (ln v8 ≤ (30 : Int)))])
  (.stop 0 [.b false]))
  (.stop 0 [.b false]))
  .fail))
  (.stop 0 [.b false]))
  .fail))
 | _ => .fail
set_option maxRecDepth 100000 in
theorem q_zbs (v0 v1 v2 : ByteArray) (v3 v4 : Int) (v5 v6 : List (List PV)) (v7 : Bool) (v8 v9 v10 : List (List PV)) : callK br Tryz.prog X158 M_zbs L_zbs (lsT []) 60 27 (encs [.s v0, .s v1, .s v2, .i v3, .i v4, .l v5, .l v6, .b v7, .l v8, .l v9, .l v10] 0 S_zbs.ap) (encH [.s v0, .s v1, .s v2, .i v3, .i v4, .l v5, .l v6, .b v7, .l v8, .l v9, .l v10] (ws S_zbs.ap) S_zbs.ah) (fun y => fixR Tryz.prog S_zbs.plan S_zbs.ah.length y) =
  (m_zbs [.s v0, .s v1, .s v2, .i v3, .i v4, .l v5, .l v6, .b v7, .l v8, .l v9, .l v10]).go br (fun _ => none) S_zbs.fin := by
 rw [← callF_eq]; kernel_rfl
theorem e_zbs : EOK Tryz.prog 27 (gF S_zbs m_zbs) :=
 eokTold mixed named x158 (loopsOK_list rids noneIn) 60 S_zbs m_zbs (by
  intro us v h; unfold m_zbs at h; split at h
  ·rename_i v0 v1 v2 v3 v4 v5 v6 v7 v8 v9 v10; exact q_zbs v0 v1 v2 v3 v4 v5 v6 v7 v8 v9 v10
  ·cases h) false
noncomputable abbrev X166 : Ext := extT [(27, (gF S_zbs m_zbs))] X158
theorem x166 : XOK Tryz.prog X166 := xok1 x158 e_zbs

end Go.Proofs.YtkaljlpbmbfpgaaGreatDoor

















set_option linter.unusedVariables false
namespace Go.Proofs.YtkaljlpbmbfpgaaGreatDoor
open Go Go.Pu

/-- levee/leveelaw14.fixed -/
def L_zby : FuncId → Nat → Option (List Nat) := liveT []
def M_zby : FuncId → Bool := fun _ => false
def S_zby : FSp := ⟨[], [], [], [([.one (.b)], [])]⟩
noncomputable def m_zby : List U → Rt
 | [] =>
  (let r0 : Rs := (Rt.res (m_zba [U.l [[PV.lst 39 [[pI (2 : Int), pI (1 : Int), pS { data := #[] }], [pI (2 : Int), pI (5 : Int), pS { data := #[] }]], pI (1 : Int)]], U.l [[PV.lst 39 [[pI (2 : Int), pI (1 : Int), pS { data := #[] }], [pI (2 : Int), pI (7 : Int), pS { data := #[] }]], pI (1 : Int)]]]))
  (.test (ok r0 0)
  (let r1 : Rs := (Rt.res (m_zag [U.s { data := #[] }, U.s { data := #[] }, U.s { data := #[] }, U.i (0 : Int), U.i (0 : Int), U.l [], U.l [[pI (0 : Int)]], U.b true, U.l [[pI (3 : Int), pI (1 : Int)]], U.l (uL (out r0 0) 0), U.l [[PV.lst 39 [[pI (2 : Int), pI (1 : Int), pS { data := #[] }], [pI (2 : Int), pI (7 : Int), pS { data := #[] }]], pI (-1 : Int)]]]))
  (.test (ok r1 0)
  (let r2 : Rs := (Rt.res (m_zag [U.s { data := #[] }, U.s { data := #[] }, U.s { data := #[] }, U.i (0 : Int), U.i (0 : Int), U.l [], U.l [[pI (0 : Int)]], U.b true, U.l [[pI (3 : Int), pI (1 : Int)]], U.l [[PV.lst 39 [[pI (2 : Int), pI (1 : Int), pS { data := #[] }], [pI (2 : Int), pI (5 : Int), pS { data := #[] }]], pI (1 : Int)]], U.l [[PV.lst 39 [[pI (2 : Int), pI (1 : Int), pS { data := #[] }], [pI (2 : Int), pI (5 : Int), pS { data := #[] }]], pI (-1 : Int)]]]))
  (.test (ok r2 0)
  (let r3 : Rs := (Rt.res (m_zag [U.s { data := #[] }, U.s { data := #[] }, U.s { data := #[] }, U.i (0 : Int), U.i (0 : Int), U.l [], U.l [[pI (0 : Int)]], U.b true, U.l [[pI (3 : Int), pI (1 : Int)]], U.l [[PV.lst 39 [[pI (2 : Int), pI (1 : Int), pS { data := #[] }], [pI (2 : Int), pI (5 : Int), pS { data := #[] }]], pI (1 : Int)]], U.l [[PV.lst 39 [[pI (2 : Int), pI (1 : Int), pS { data := #[] }], [pI (2 : Int), pI (5 : Int), pS { data := #[] }]], pI (-2 : Int)]]]))
  (.test (ok r3 0)
  (let r4 : Rs := (Rt.res (m_zag [U.s { data := #[] }, U.s { data := #[] }, U.s { data := #[] }, U.i (0 : Int), U.i (0 : Int), U.l [], U.l [[pI (1 : Int)]], U.b false, U.l [], U.l [], U.l [[PV.lst 39 [[pI (2 : Int), pI (1 : Int), pS { data := #[] }], [pI (2 : Int), pI (7 : Int), pS { data := #[] }]], pI (-1 : Int)]]]))
  (.test (ok r4 0)
  (.test (uI (out r1 0) 0 == (0 : Int))
  (let r5 : Rs := (Rt.res (m_zay [U.l (uL (out r1 0) 1)]))
  (.test (ok r5 0)
  (.test (ByteArray.toList (uS (out r5 0) 0) == [(40 : UInt8), (49 : UInt8), (44 : UInt8), (32 : UInt8), (53 : UInt8), (41 : UInt8), (32 : UInt8), (40 : UInt8), (49 : UInt8), (44 : UInt8), (32 : UInt8), (55 : UInt8), (41 : UInt8), (42 : UInt8), (45 : UInt8), (49 : UInt8)])
  (.test (uI (out r2 0) 0 == (0 : Int))
  (let r6 : Rs := (Rt.res (m_zay [U.l (uL (out r2 0) 1)]))
  (.test (ok r6 0)
  (.test (ByteArray.toList (uS (out r6 0) 0) == [(40 : UInt8), (49 : UInt8), (44 : UInt8), (32 : UInt8), (53 : UInt8), (41 : UInt8), (42 : UInt8), (45 : UInt8), (49 : UInt8)])
  (.test (uI (out r3 0) 0 == (1 : Int))
  (let r7 : Rs := (Rt.res (m_zay [U.l (uL (out r4 0) 1)]))
  (.test (ok r7 0)
  (.test (ByteArray.toList (uS (out r7 0) 0) == [(40 : UInt8), (55 : UInt8), (41 : UInt8), (42 : UInt8), (45 : UInt8), (49 : UInt8)])
  (.stop 0 [.b (uI (out r4 0) 0 == (0 : Int))])
  (.stop 0 [.b false]))
  .fail))
  (.stop 0 [.b false]))
  (.stop 0 [.b false]))
  .fail))
  (.stop 0 [.b false]))
  (.stop 0 [.b false]))
  .fail))
  (.stop 0 [.b false]))
  .fail))
  .fail))
  .fail))
  .fail))
  .fail))
 | _ => .fail
set_option maxRecDepth 100000 in
theorem q_zby : callK br Tryz.prog X166 M_zby L_zby (lsT []) 60 28 (encs [] 0 S_zby.ap) (encH [] (ws S_zby.ap) S_zby.ah) (fun y => fixR Tryz.prog S_zby.plan S_zby.ah.length y) =
  (m_zby []).go br (fun _ => none) S_zby.fin := by
 rw [← callF_eq]; kernel_rfl
theorem e_zby : EOK Tryz.prog 28 (gF S_zby m_zby) :=
 eokTold mixed named x166 (loopsOK_list rids noneIn) 60 S_zby m_zby (by
  intro us v h; unfold m_zby at h; split at h
  ·exact q_zby
  ·cases h) false
noncomputable abbrev X202 : Ext := extT [(28, (gF S_zby m_zby))] X166
theorem x202 : XOK Tryz.prog X202 := xok1 x166 e_zby

/-- levee/leveelaw14.RegroupCount -/
def L_zci : FuncId → Nat → Option (List Nat) := liveT [(12, 7, [0, 1, 5, 6, 7, 8, 9]), (12, 1000007, [0, 1, 5, 6, 7, 8]), (12, 2000007, [4]), (12, 11, [0, 1, 5, 6, 7, 8, 10]), (12, 1000011, [0, 1, 5, 7, 8]), (12, 2000011, [4])]
def M_zci : FuncId → Bool := fun _ => false
noncomputable def rd_zci_12_7 : List U → Rt
 | [.l v0, .l v1, .l v2, .i v3, .i v4, .i v5, .s v6, .s v7, .s v8, .i v9, .i v10, .b v11, .l v12] =>
  (.test (decide (v5 < ln v0))
  (.test (inR v5 (ln v0))
  (.next [.l v0, .l v1, .l v2, .i (w64 (v3 + cI (el v0 v5) 1)), .i v4, .i (w64 (v5 + (1 : Int))), .s v6, .s v7, .s v8, .i v9, .i v10, .b v11, .l v12])
  .fail)
  (.stop 0 [.l v0, .l v1, .l v2, .i v3, .i v4, .s v6, .s v7, .s v8, .i v9, .i v10, .b v11, .l v12]))
 | _ => .fail
def sp_zci_12_7 : LSp := ⟨115, ⟨[(0, .one (.l 49)), (1, .one (.l 49)), (5, .one (.ptr 0 0)), (6, .one (.l 49)), (7, .one (.i .i64)), (8, .one (.i .i64)), (9, .one (.i .i64))], [.box 28 [.one (.s), .one (.s), .one (.s), .one (.i .i64), .one (.i .i64), .one (.nils), .one (.nils), .one (.b), .one (.all 1)], .arr 32 true]⟩, [(.exit 0, ⟨[(0, .one (.l 49)), (1, .one (.l 49)), (5, .one (.ptr 0 0)), (6, .one (.l 49)), (7, .one (.i .i64)), (8, .one (.i .i64))], [.box 28 [.one (.s), .one (.s), .one (.s), .one (.i .i64), .one (.i .i64), .one (.nils), .one (.nils), .one (.b), .one (.all 1)], .arr 32 true]⟩)]⟩
set_option maxRecDepth 100000 in
theorem rq_zci_12_7 (v0 v1 v2 : List (List PV)) (v3 v4 v5 : Int) (v6 v7 v8 : ByteArray) (v9 v10 : Int) (v11 : Bool) (v12 : List (List PV)) : runK br Tryz.prog (callK br Tryz.prog X202 M_zci L_zci (lsT []) 40) M_zci (lsT [] 12 0) 40 0 (L_zci 12) (bodyOf Tryz.prog 12 7) (sp_zci_12_7.s.ts sp_zci_12_7.n [.l v0, .l v1, .l v2, .i v3, .i v4, .i v5, .s v6, .s v7, .s v8, .i v9, .i v10, .b v11, .l v12]) (sp_zci_12_7.s.h [.l v0, .l v1, .l v2, .i v3, .i v4, .i v5, .s v6, .s v7, .s v8, .i v9, .i v10, .b v11, .l v12]) (idc Tryz.prog 0 (L_zci 12) 7) =
  (rd_zci_12_7 [.l v0, .l v1, .l v2, .i v3, .i v4, .i v5, .s v6, .s v7, .s v8, .i v9, .i v10, .b v11, .l v12]).go br (fun us' => some (.normal, sp_zci_12_7.s.ts sp_zci_12_7.n us', sp_zci_12_7.s.h us')) sp_zci_12_7.fin := by
 rw [← callF_eq, ← runF_eq]; kernel_rfl
theorem lo_zci_12_7 {R : Type} : LoopTells Tryz.prog X202 M_zci L_zci 0 (L_zci 12) (bodyOf Tryz.prog 12 7) (gL (R := R) sp_zci_12_7 rd_zci_12_7 br) :=
 loopTold (callK_ev (loopsOK_list rids noneIn) 40) (lsokIn (loopsOK_list rids noneIn) 12 0 7) (by kernel_rfl) sp_zci_12_7 rd_zci_12_7 rfl (by kernel_rfl) (by
  intro us v h; unfold rd_zci_12_7 at h; split at h
  ·rename_i v0 v1 v2 v3 v4 v5 v6 v7 v8 v9 v10 v11 v12; exact rq_zci_12_7 v0 v1 v2 v3 v4 v5 v6 v7 v8 v9 v10 v11 v12
  ·cases h)
noncomputable abbrev ll_zci_12_7 {R : Type} : List (Nat × Nat × Nat × Smy R) := (12, 0, 7, gL sp_zci_12_7 rd_zci_12_7 br) :: []
theorem lk_zci_12_7 {R : Type} : ∀ e ∈ ll_zci_12_7 (R := R), LoopTells Tryz.prog X202 M_zci L_zci e.2.1 (L_zci e.1) (bodyOf Tryz.prog e.1 e.2.2.1) e.2.2.2 := List.forall_mem_cons.2 ⟨lo_zci_12_7, noneIn⟩
noncomputable def rd_zci_12_11 : List U → Rt
 | [.l v0, .l v1, .l v2, .i v3, .i v4, .i v5, .s v6, .s v7, .s v8, .i v9, .i v10, .b v11, .l v12] =>
  (.test (decide (v5 < ln v2))
  (.test (inR v5 (ln v2))
  (.next [.l v0, .l v1, .l v2, .i v3, .i (w64 (v4 + cI (el v2 v5) 1)), .i (w64 (v5 + (1 : Int))), .s v6, .s v7, .s v8, .i v9, .i v10, .b v11, .l v12])
  .fail)
  (.stop 0 [.l v0, .l v1, .i v3, .i v4, .s v6, .s v7, .s v8, .i v9, .i v10, .b v11, .l v12]))
 | _ => .fail
def sp_zci_12_11 : LSp := ⟨115, ⟨[(0, .one (.l 49)), (1, .one (.l 49)), (5, .one (.ptr 0 0)), (6, .one (.l 49)), (7, .one (.i .i64)), (8, .one (.i .i64)), (10, .one (.i .i64))], [.box 28 [.one (.s), .one (.s), .one (.s), .one (.i .i64), .one (.i .i64), .one (.nils), .one (.nils), .one (.b), .one (.all 1)], .arr 32 true]⟩, [(.exit 2, ⟨[(0, .one (.l 49)), (1, .one (.l 49)), (5, .one (.ptr 0 0)), (7, .one (.i .i64)), (8, .one (.i .i64))], [.box 28 [.one (.s), .one (.s), .one (.s), .one (.i .i64), .one (.i .i64), .one (.nils), .one (.nils), .one (.b), .one (.all 1)], .arr 32 true]⟩)]⟩
set_option maxRecDepth 100000 in
theorem rq_zci_12_11 (v0 v1 v2 : List (List PV)) (v3 v4 v5 : Int) (v6 v7 v8 : ByteArray) (v9 v10 : Int) (v11 : Bool) (v12 : List (List PV)) : runK br Tryz.prog (callK br Tryz.prog X202 M_zci L_zci (lsT ll_zci_12_7) 40) M_zci (lsT ll_zci_12_7 12 0) 40 0 (L_zci 12) (bodyOf Tryz.prog 12 11) (sp_zci_12_11.s.ts sp_zci_12_11.n [.l v0, .l v1, .l v2, .i v3, .i v4, .i v5, .s v6, .s v7, .s v8, .i v9, .i v10, .b v11, .l v12]) (sp_zci_12_11.s.h [.l v0, .l v1, .l v2, .i v3, .i v4, .i v5, .s v6, .s v7, .s v8, .i v9, .i v10, .b v11, .l v12]) (idc Tryz.prog 0 (L_zci 12) 11) =
  (rd_zci_12_11 [.l v0, .l v1, .l v2, .i v3, .i v4, .i v5, .s v6, .s v7, .s v8, .i v9, .i v10, .b v11, .l v12]).go br (fun us' => some (.normal, sp_zci_12_11.s.ts sp_zci_12_11.n us', sp_zci_12_11.s.h us')) sp_zci_12_11.fin := by
 rw [← callF_eq, ← runF_eq]; kernel_rfl
theorem lo_zci_12_11 {R : Type} : LoopTells Tryz.prog X202 M_zci L_zci 0 (L_zci 12) (bodyOf Tryz.prog 12 11) (gL (R := R) sp_zci_12_11 rd_zci_12_11 br) :=
 loopTold (callK_ev (loopsOK_list rids lk_zci_12_7) 40) (lsokIn (loopsOK_list rids lk_zci_12_7) 12 0 11) (by kernel_rfl) sp_zci_12_11 rd_zci_12_11 rfl (by kernel_rfl) (by
  intro us v h; unfold rd_zci_12_11 at h; split at h
  ·rename_i v0 v1 v2 v3 v4 v5 v6 v7 v8 v9 v10 v11 v12; exact rq_zci_12_11 v0 v1 v2 v3 v4 v5 v6 v7 v8 v9 v10 v11 v12
  ·cases h)
noncomputable abbrev ll_zci_12_11 {R : Type} : List (Nat × Nat × Nat × Smy R) := (12, 0, 11, gL sp_zci_12_11 rd_zci_12_11 br) :: ll_zci_12_7
theorem lk_zci_12_11 {R : Type} : ∀ e ∈ ll_zci_12_11 (R := R), LoopTells Tryz.prog X202 M_zci L_zci e.2.1 (L_zci e.1) (bodyOf Tryz.prog e.1 e.2.2.1) e.2.2.2 := List.forall_mem_cons.2 ⟨lo_zci_12_11, lk_zci_12_7⟩
def S_zci : FSp := ⟨[.one (.l 49), .one (.l 49)], [], [], [([.one (.b)], [])]⟩
noncomputable def m_zci : List U → Rt
 | [.l v0, .l v1] =>
  (let r0 : Rs := (Rt.res (m_zba [U.l v0, U.l v1]))
  (.test (ok r0 0)
  (let r1 : Rs := (Rt.res (m_zby []))
  (.test (ok r1 0)
  (.test (!uB (out r1 0) 0)
  (let r2 : Rs := (Rt.res (m_zby []))
  (.test (ok r2 0)
  (.stop 0 [.b (uB (out r2 0) 0)])
  .fail))
  (let r3 : Rs := (Rt.res (m_zbs [U.s { data := #[] }, U.s { data := #[] }, U.s { data := #[] }, U.i (0 : Int), U.i (0 : Int), U.l [], U.l [], U.b true, U.l [[pI (0 : Int), pI (0 : Int)]], U.l v0, U.l v1]))
  (.test (ok r3 0)
  (.test (!uB (out r3 0) 0)
  (let r4 : Rs := (Rt.res (m_zby []))
  (.test (ok r4 0)
  (.stop 0 [.b (uB (out r4 0) 0)])
  .fail))
  (let r5 : Rs := (Rt.res (m_zas [U.l v0]))
  (.test (ok r5 0)
  (.test (!uB (out r5 0) 0)
  (let r6 : Rs := (Rt.res (m_zby []))
  (.test (ok r6 0)
  (.stop 0 [.b (uB (out r6 0) 0)])
  .fail))
  (let r7 : Rs := (Rt.res (m_zas [U.l v1]))
  (.test (ok r7 0)
  (.test (!uB (out r7 0) 0)
  (let r8 : Rs := (Rt.res (m_zby []))
  (.test (ok r8 0)
  (.stop 0 [.b (uB (out r8 0) 0)])
  .fail))
  (let r9 : Rs := (Rt.res (m_zbd [U.l v0]))
  (.test (ok r9 0)
  (.test (uI (out r9 0) 0 != (0 : Int))
  (let r10 : Rs := (Rt.res (m_zby []))
  (.test (ok r10 0)
  (.stop 0 [.b (uB (out r10 0) 0)])
  .fail))
  (let r11 : Rs := (Rt.res (m_zbd [U.l (uL (out r0 0) 0)]))
  (.test (ok r11 0)
  (.test (uI (out r11 0) 0 != (0 : Int))
  (let r12 : Rs := (Rt.res (m_zby []))
  (.test (ok r12 0)
  (.stop 0 [.b (uB (out r12 0) 0)])
  .fail))
  (let r13 : Rs := (lres rd_zci_12_7 [U.l v0, U.l v1, U.l (uL (out r0 0) 0), U.i (0 : Int), U.i (0 : Int), U.i (0 : Int), U.s { data := #[] }, U.s { data := #[] }, U.s { data := #[] }, U.i (0 : Int), U.i (0 : Int), U.b true, U.l [[pI (0 : Int), pI (0 : Int)]]])
  (.test (ok r13 0)
  (let r14 : Rs := (lres rd_zci_12_11 [U.l (uL (out r13 0) 0), U.l (uL (out r13 0) 1), U.l (uL (out r13 0) 2), U.i (uI (out r13 0) 3), U.i (uI (out r13 0) 4), U.i (0 : Int), U.s (uS (out r13 0) 5), U.s (uS (out r13 0) 6), U.s (uS (out r13 0) 7), U.i (uI (out r13 0) 8), U.i (uI (out r13 0) 9), U.b (uB (out r13 0) 10), U.l (uL (out r13 0) 11)])
  (.test (ok r14 0)
  (.test (decide (uI (out r14 0) 2 > (0 : Int)))
  (let r15 : Rs := (Rt.res (m_zan [U.l [], U.l [[pI (2 : Int), pI (uI (out r14 0) 2), pS { data := #[] }]], U.i (-1 : Int)]))
  (.test (ok r15 0)
  (.test (decide (uI (out r14 0) 3 > (0 : Int)))
  (let r16 : Rs := (Rt.res (m_zan [U.l (uL (out r15 0) 0), U.l [[pI (2 : Int), pI (uI (out r14 0) 3), pS { data := #[] }]], U.i (1 : Int)]))
  (.test (ok r16 0)
  (let r17 : Rs := (Rt.res (m_zag [U.s (uS (out r14 0) 4), U.s (uS (out r14 0) 5), U.s (uS (out r14 0) 6), U.i (uI (out r14 0) 7), U.i (uI (out r14 0) 8), U.l [], U.l [], U.b (uB (out r14 0) 9), U.l (uL (out r14 0) 10), U.l (uL (out r14 0) 0), U.l (uL (out r14 0) 1)]))
  (.test (ok r17 0)
  (.test (uI (out r17 0) 0 == (0 : Int))
  (let r18 : Rs := (Rt.res (m_zbl [U.l (uL (out r17 0) 1), U.l (uL (out r16 0) 0)]))
  (.test (ok r18 0)
  (.test (uB (out r18 0) 0)
  (.stop 0 [.b true])
  (.test (ln (uL (out r14 0) 1) == (0 : Int))
  (.stop 0 [.b (ln (uL (out r17 0) 1) == (0 : Int))])
  (.stop 0 [.b false])))
  .fail))
  (.stop 0 [.b false]))
  .fail))
  .fail))
  (let r19 : Rs := (Rt.res (m_zag [U.s (uS (out r14 0) 4), U.s (uS (out r14 0) 5), U.s (uS (out r14 0) 6), U.i (uI (out r14 0) 7), U.i (uI (out r14 0) 8), U.l [], U.l [], U.b (uB (out r14 0) 9), U.l (uL (out r14 0) 10), U.l (uL (out r14 0) 0), U.l (uL (out r14 0) 1)]))
  (.test (ok r19 0)
  (.test (uI (out r19 0) 0 == (0 : Int))
  (let r20 : Rs := (Rt.res (m_zbl [U.l (uL (out r19 0) 1), U.l (uL (out r15 0) 0)]))
  (.test (ok r20 0)
  (.test (uB (out r20 0) 0)
  (.stop 0 [.b true])
  (.test (ln (uL (out r14 0) 1) == (0 : Int))
  (.stop 0 [.b (ln (uL (out r19 0) 1) == (0 : Int))])
  (.stop 0 [.b false])))
  .fail))
  (.stop 0 [.b false]))
  .fail)))
  .fail))
  (.test (decide (uI (out r14 0) 3 > (0 : Int)))
  (let r21 : Rs := (Rt.res (m_zan [U.l [], U.l [[pI (2 : Int), pI (uI (out r14 0) 3), pS { data := #[] }]], U.i (1 : Int)]))
  (.test (ok r21 0)
  (let r22 : Rs := (Rt.res (m_zag [U.s (uS (out r14 0) 4), U.s (uS (out r14 0) 5), U.s (uS (out r14 0) 6), U.i (uI (out r14 0) 7), U.i (uI (out r14 0) 8), U.l [], U.l [], U.b (uB (out r14 0) 9), U.l (uL (out r14 0) 10), U.l (uL (out r14 0) 0), U.l (uL (out r14 0) 1)]))
  (.test (ok r22 0)
  (.test (uI (out r22 0) 0 == (0 : Int))
  (let r23 : Rs := (Rt.res (m_zbl [U.l (uL (out r22 0) 1), U.l (uL (out r21 0) 0)]))
  (.test (ok r23 0)
  (.test (uB (out r23 0) 0)
  (.stop 0 [.b true])
  (.test (ln (uL (out r14 0) 1) == (0 : Int))
  (.stop 0 [.b (ln (uL (out r22 0) 1) == (0 : Int))])
  (.stop 0 [.b false])))
  .fail))
  (.stop 0 [.b false]))
  .fail))
  .fail))
  (let r24 : Rs := (Rt.res (m_zag [U.s (uS (out r14 0) 4), U.s (uS (out r14 0) 5), U.s (uS (out r14 0) 6), U.i (uI (out r14 0) 7), U.i (uI (out r14 0) 8), U.l [], U.l [], U.b (uB (out r14 0) 9), U.l (uL (out r14 0) 10), U.l (uL (out r14 0) 0), U.l (uL (out r14 0) 1)]))
  (.test (ok r24 0)
  (.test (uI (out r24 0) 0 == (0 : Int))
  (let r25 : Rs := (Rt.res (m_zbl [U.l (uL (out r24 0) 1), U.l []]))
  (.test (ok r25 0)
  (.test (uB (out r25 0) 0)
  (.stop 0 [.b true])
  (.test (ln (uL (out r14 0) 1) == (0 : Int))
  (.stop 0 [.b (ln (uL (out r24 0) 1) == (0 : Int))])
  (.stop 0 [.b false])))
  .fail))
  (.stop 0 [.b false]))
  .fail))))
  .fail))
  .fail)))
  .fail)))
  .fail)))
  .fail)))
  .fail)))
  .fail)))
  .fail))
  .fail))
 | _ => .fail
set_option maxRecDepth 100000 in
theorem q_zci (v0 v1 : List (List PV)) : callK br Tryz.prog X202 M_zci L_zci (lsT ll_zci_12_11) 60 12 (encs [.l v0, .l v1] 0 S_zci.ap) (encH [.l v0, .l v1] (ws S_zci.ap) S_zci.ah) (fun y => fixR Tryz.prog S_zci.plan S_zci.ah.length y) =
  (m_zci [.l v0, .l v1]).go br (fun _ => none) S_zci.fin := by
 rw [← callF_eq]; kernel_rfl
theorem e_zci : EOK Tryz.prog 12 (gF S_zci m_zci) :=
 eokTold mixed named x202 (loopsOK_list rids lk_zci_12_11) 60 S_zci m_zci (by
  intro us v h; unfold m_zci at h; split at h
  ·rename_i v0 v1; exact q_zci v0 v1
  ·cases h) false
noncomputable abbrev X212 : Ext := extT [(12, (gF S_zci m_zci))] X202
theorem x212 : XOK Tryz.prog X212 := xok1 x202 e_zci

end Go.Proofs.YtkaljlpbmbfpgaaGreatDoor
