/- Texts of this seat, one behind the other. -/
import Derived.Test.YtikmahlogjcieaaGreatKX
import Derived.Test.YtikmahlogjcieaaGreatTE
import Derived.Test.YtikmahlogjcieaaGreatGX
set_option linter.unusedVariables false
namespace Go.Proofs.YtikmahlogjcieaaGreat
open Go Go.Pu

def L_R02_May : FuncId → Nat → Option (List Nat) := liveT [(79, 2, [0, 3]), (79, 1000002, []), (79, 2000002, [2])]
def M_R02_May : FuncId → Bool := fun _ => false
noncomputable def rd_R02_May_79_2 : List U → Rt
  | [.l v0, .i v1] =>
    (.test (decide (v1 < ln v0))
    (.test (inR v1 (ln v0))
    (let r0 : Rs := (Rt.res (m_R01_May [U.i (cI (el v0 v1) 0), U.i (cI (el v0 v1) 1), U.s (cS (el v0 v1) 2)]))
    (.test (ok r0 0)
    (.test (!uB (out r0 0) 0)
    (.stop 0 [.b false])
    (.next [.l v0, .i (w64 (v1 + (1 : Int)))]))
    .fail))
    .fail)
    (.stop 1 []))
  | _ => .fail
def sp_R02_May_79_2 : LSp := ⟨16, ⟨[(0, .one (.l 56)), (3, .one (.i .i64))], []⟩, [(.ret, ⟨[(2, .one (.b))], []⟩), (.exit 0, ⟨[], []⟩)]⟩
set_option maxRecDepth 100000 in
theorem rq_R02_May_79_2 (v0 : List (List PV)) (v1 : Int) : runK br Tryz.prog (callK br Tryz.prog X140 M_R02_May L_R02_May (lsT []) 40) M_R02_May (lsT [] 79 0) 40 0 (L_R02_May 79) (bodyOf Tryz.prog 79 2) (sp_R02_May_79_2.s.ts sp_R02_May_79_2.n [.l v0, .i v1]) (sp_R02_May_79_2.s.h [.l v0, .i v1]) (idc Tryz.prog 0 (L_R02_May 79) 2) =
    (rd_R02_May_79_2 [.l v0, .i v1]).go br (fun us' => some (.normal, sp_R02_May_79_2.s.ts sp_R02_May_79_2.n us', sp_R02_May_79_2.s.h us')) sp_R02_May_79_2.fin := by
  rw [← callF_eq, ← runF_eq]; kernel_rfl
theorem lo_R02_May_79_2 {R : Type} : LoopTells Tryz.prog X140 M_R02_May L_R02_May 0 (L_R02_May 79) (bodyOf Tryz.prog 79 2) (gL (R := R) sp_R02_May_79_2 rd_R02_May_79_2 br) :=
  loopTold (callK_ev (loopsOK_list rids noneIn) 40) (lsokIn (loopsOK_list rids noneIn) 79 0 2) (by kernel_rfl) sp_R02_May_79_2 rd_R02_May_79_2 rfl (by kernel_rfl) (by
    intro us v h; unfold rd_R02_May_79_2 at h; split at h
    · rename_i v0 v1; exact rq_R02_May_79_2 v0 v1
    · cases h)
noncomputable abbrev ll_R02_May_79_2 {R : Type} : List (Nat × Nat × Nat × Smy R) := (79, 0, 2, gL sp_R02_May_79_2 rd_R02_May_79_2 br) :: []
theorem lk_R02_May_79_2 {R : Type} : ∀ e ∈ ll_R02_May_79_2 (R := R), LoopTells Tryz.prog X140 M_R02_May L_R02_May e.2.1 (L_R02_May e.1) (bodyOf Tryz.prog e.1 e.2.2.1) e.2.2.2 := List.forall_mem_cons.2 ⟨lo_R02_May_79_2, noneIn⟩
def S_R02_May : FSp := ⟨[.one (.l 56)], [], [], [([.one (.b)], [])]⟩
noncomputable def m_R02_May : List U → Rt
  | [.l v0] =>
    (let r0 : Rs := (lres rd_R02_May_79_2 [U.l v0, U.i (0 : Int)])
    (.test (ok r0 0)
    (.stop 0 [.b (uB (out r0 0) 0)])
    (.test (ok r0 1)
    (.stop 0 [.b true])
    .fail)))
  | _ => .fail
set_option maxRecDepth 100000 in
theorem q_R02_May (v0 : List (List PV)) : callK br Tryz.prog X140 M_R02_May L_R02_May (lsT ll_R02_May_79_2) 60 79 (encs [.l v0] 0 S_R02_May.ap) (encH [.l v0] (ws S_R02_May.ap) S_R02_May.ah) (fun y => fixR Tryz.prog S_R02_May.plan S_R02_May.ah.length y) =
    (m_R02_May [.l v0]).go br (fun _ => none) S_R02_May.fin := by
  rw [← callF_eq]; kernel_rfl
theorem e_R02_May : EOK Tryz.prog 79 (gF S_R02_May m_R02_May) :=
  eokTold mixed named x140 (loopsOK_list rids lk_R02_May_79_2) 60 S_R02_May m_R02_May (by
    intro us v h; unfold m_R02_May at h; split at h
    · rename_i v0; exact q_R02_May v0
    · cases h) false
noncomputable abbrev X141 : Ext := extT [(79, (gF S_R02_May m_R02_May))] X140
theorem x141 : XOK Tryz.prog X141 := xok1 x140 e_R02_May

def L_R04_May : FuncId → Nat → Option (List Nat) := liveT []
def M_R04_May : FuncId → Bool := fun _ => false
def S_R04_May : FSp := ⟨[.one (.l 56)], [], [], [([.one (.b)], [])]⟩
noncomputable def m_R04_May : List U → Rt
  | [.l v0] =>
    (.test (decide (ln v0 ≤ (40 : Int)))
    (let r0 : Rs := (Rt.res (m_R02_May [U.l v0]))
    (.test (ok r0 0)
    (.stop 0 [.b (uB (out r0 0) 0)])
    .fail))
    (.stop 0 [.b false]))
  | _ => .fail
set_option maxRecDepth 100000 in
theorem q_R04_May (v0 : List (List PV)) : callK br Tryz.prog X141 M_R04_May L_R04_May (lsT []) 60 64 (encs [.l v0] 0 S_R04_May.ap) (encH [.l v0] (ws S_R04_May.ap) S_R04_May.ah) (fun y => fixR Tryz.prog S_R04_May.plan S_R04_May.ah.length y) =
    (m_R04_May [.l v0]).go br (fun _ => none) S_R04_May.fin := by
  rw [← callF_eq]; kernel_rfl
theorem e_R04_May : EOK Tryz.prog 64 (gF S_R04_May m_R04_May) :=
  eokTold mixed named x141 (loopsOK_list rids noneIn) 60 S_R04_May m_R04_May (by
    intro us v h; unfold m_R04_May at h; split at h
    · rename_i v0; exact q_R04_May v0
    · cases h) false
noncomputable abbrev X142 : Ext := extT [(64, (gF S_R04_May m_R04_May))] X141
theorem x142 : XOK Tryz.prog X142 := xok1 x141 e_R04_May

def L_R01_Compare : FuncId → Nat → Option (List Nat) := liveT []
def M_R01_Compare : FuncId → Bool := fun _ => false
def S_R01_Compare : FSp := ⟨[.agg [.i .i64, .i .i64, .s], .agg [.i .i64, .i .i64, .s]], [], [], [([.one (.i .i64)], [])]⟩
noncomputable def m_R01_Compare : List U → Rt
  | [.i v0, .i v1, .s v2, .i v3, .i v4, .s v5] =>
    (.test (v0 != v3)
    (.test (decide (v0 < v3))
    (.stop 0 [.i ((-1 : Int))])
    (.stop 0 [.i ((1 : Int))]))
    (.test (v1 != v4)
    (.test (decide (v1 < v4))
    (.stop 0 [.i ((-1 : Int))])
    (.stop 0 [.i ((1 : Int))]))
    (.test (Op.bytesLess (ByteArray.toList v2) (ByteArray.toList v5))
    (.stop 0 [.i ((-1 : Int))])
    (.test (!(Op.bytesLess (ByteArray.toList v2) (ByteArray.toList v5) || ByteArray.toList v2 == ByteArray.toList v5))
    (.stop 0 [.i ((1 : Int))])
    (.stop 0 [.i ((0 : Int))])))))
  | _ => .fail
set_option maxRecDepth 100000 in
theorem q_R01_Compare (v0 : Int) (v1 : Int) (v2 : ByteArray) (v3 : Int) (v4 : Int) (v5 : ByteArray) : callK br Tryz.prog X142 M_R01_Compare L_R01_Compare (lsT []) 60 70 (encs [.i v0, .i v1, .s v2, .i v3, .i v4, .s v5] 0 S_R01_Compare.ap) (encH [.i v0, .i v1, .s v2, .i v3, .i v4, .s v5] (ws S_R01_Compare.ap) S_R01_Compare.ah) (fun y => fixR Tryz.prog S_R01_Compare.plan S_R01_Compare.ah.length y) =
    (m_R01_Compare [.i v0, .i v1, .s v2, .i v3, .i v4, .s v5]).go br (fun _ => none) S_R01_Compare.fin := by
  rw [← callF_eq]; kernel_rfl
theorem e_R01_Compare : EOK Tryz.prog 70 (gF S_R01_Compare m_R01_Compare) :=
  eokTold mixed named x142 (loopsOK_list rids noneIn) 60 S_R01_Compare m_R01_Compare (by
    intro us v h; unfold m_R01_Compare at h; split at h
    · rename_i v0 v1 v2 v3 v4 v5; exact q_R01_Compare v0 v1 v2 v3 v4 v5
    · cases h) false
noncomputable abbrev X143 : Ext := extT [(70, (gF S_R01_Compare m_R01_Compare))] X142
theorem x143 : XOK Tryz.prog X143 := xok1 x142 e_R01_Compare

def L_R02_Compare : FuncId → Nat → Option (List Nat) := liveT [(45, 2, [0, 1, 5]), (45, 1000002, [0, 1]), (45, 2000002, [4])]
def M_R02_Compare : FuncId → Bool := fun _ => false
noncomputable def rd_R02_Compare_45_2 : List U → Rt
  | [.l v0, .l v1, .i v2] =>
    (.test (decide (v2 < ln v0))
    (.test (decide (v2 < ln v1))
    (.test (inR v2 (ln v0))
    (.test (inR v2 (ln v1))
    (let r0 : Rs := (Rt.res (m_R01_Compare [U.i (cI (el v0 v2) 0), U.i (cI (el v0 v2) 1), U.s (cS (el v0 v2) 2), U.i (cI (el v1 v2) 0), U.i (cI (el v1 v2) 1), U.s (cS (el v1 v2) 2)]))
    (.test (ok r0 0)
    (.test (uI (out r0 0) 0 != (0 : Int))
    (.stop 0 [.i (uI (out r0 0) 0)])
    (.next [.l v0, .l v1, .i (w64 (v2 + (1 : Int)))]))
    .fail))
    .fail)
    .fail)
    (.stop 1 [.l v0, .l v1]))
    (.stop 1 [.l v0, .l v1]))
  | _ => .fail
def sp_R02_Compare_45_2 : LSp := ⟨41, ⟨[(0, .one (.l 56)), (1, .one (.l 56)), (5, .one (.i .i64))], []⟩, [(.ret, ⟨[(4, .one (.i .i64))], []⟩), (.exit 0, ⟨[(0, .one (.l 56)), (1, .one (.l 56))], []⟩)]⟩
set_option maxRecDepth 100000 in
theorem rq_R02_Compare_45_2 (v0 : List (List PV)) (v1 : List (List PV)) (v2 : Int) : runK br Tryz.prog (callK br Tryz.prog X143 M_R02_Compare L_R02_Compare (lsT []) 40) M_R02_Compare (lsT [] 45 0) 40 0 (L_R02_Compare 45) (bodyOf Tryz.prog 45 2) (sp_R02_Compare_45_2.s.ts sp_R02_Compare_45_2.n [.l v0, .l v1, .i v2]) (sp_R02_Compare_45_2.s.h [.l v0, .l v1, .i v2]) (idc Tryz.prog 0 (L_R02_Compare 45) 2) =
    (rd_R02_Compare_45_2 [.l v0, .l v1, .i v2]).go br (fun us' => some (.normal, sp_R02_Compare_45_2.s.ts sp_R02_Compare_45_2.n us', sp_R02_Compare_45_2.s.h us')) sp_R02_Compare_45_2.fin := by
  rw [← callF_eq, ← runF_eq]; kernel_rfl
theorem lo_R02_Compare_45_2 {R : Type} : LoopTells Tryz.prog X143 M_R02_Compare L_R02_Compare 0 (L_R02_Compare 45) (bodyOf Tryz.prog 45 2) (gL (R := R) sp_R02_Compare_45_2 rd_R02_Compare_45_2 br) :=
  loopTold (callK_ev (loopsOK_list rids noneIn) 40) (lsokIn (loopsOK_list rids noneIn) 45 0 2) (by kernel_rfl) sp_R02_Compare_45_2 rd_R02_Compare_45_2 rfl (by kernel_rfl) (by
    intro us v h; unfold rd_R02_Compare_45_2 at h; split at h
    · rename_i v0 v1 v2; exact rq_R02_Compare_45_2 v0 v1 v2
    · cases h)
noncomputable abbrev ll_R02_Compare_45_2 {R : Type} : List (Nat × Nat × Nat × Smy R) := (45, 0, 2, gL sp_R02_Compare_45_2 rd_R02_Compare_45_2 br) :: []
theorem lk_R02_Compare_45_2 {R : Type} : ∀ e ∈ ll_R02_Compare_45_2 (R := R), LoopTells Tryz.prog X143 M_R02_Compare L_R02_Compare e.2.1 (L_R02_Compare e.1) (bodyOf Tryz.prog e.1 e.2.2.1) e.2.2.2 := List.forall_mem_cons.2 ⟨lo_R02_Compare_45_2, noneIn⟩
def S_R02_Compare : FSp := ⟨[.one (.l 56), .one (.l 56)], [], [], [([.one (.i .i64)], [])]⟩
noncomputable def m_R02_Compare : List U → Rt
  | [.l v0, .l v1] =>
    (let r0 : Rs := (lres rd_R02_Compare_45_2 [U.l v0, U.l v1, U.i (0 : Int)])
    (.test (ok r0 0)
    (.stop 0 [.i (uI (out r0 0) 0)])
    (.test (ok r0 1)
    (.test (decide (ln (uL (out r0 1) 0) < ln (uL (out r0 1) 1)))
    (.stop 0 [.i ((-1 : Int))])
    (.test (decide (ln (uL (out r0 1) 0) > ln (uL (out r0 1) 1)))
    (.stop 0 [.i ((1 : Int))])
    (.stop 0 [.i ((0 : Int))])))
    .fail)))
  | _ => .fail
set_option maxRecDepth 100000 in
theorem q_R02_Compare (v0 : List (List PV)) (v1 : List (List PV)) : callK br Tryz.prog X143 M_R02_Compare L_R02_Compare (lsT ll_R02_Compare_45_2) 60 45 (encs [.l v0, .l v1] 0 S_R02_Compare.ap) (encH [.l v0, .l v1] (ws S_R02_Compare.ap) S_R02_Compare.ah) (fun y => fixR Tryz.prog S_R02_Compare.plan S_R02_Compare.ah.length y) =
    (m_R02_Compare [.l v0, .l v1]).go br (fun _ => none) S_R02_Compare.fin := by
  rw [← callF_eq]; kernel_rfl
theorem e_R02_Compare : EOK Tryz.prog 45 (gF S_R02_Compare m_R02_Compare) :=
  eokTold mixed named x143 (loopsOK_list rids lk_R02_Compare_45_2) 60 S_R02_Compare m_R02_Compare (by
    intro us v h; unfold m_R02_Compare at h; split at h
    · rename_i v0 v1; exact q_R02_Compare v0 v1
    · cases h) false
noncomputable abbrev X144 : Ext := extT [(45, (gF S_R02_Compare m_R02_Compare))] X143
theorem x144 : XOK Tryz.prog X144 := xok1 x143 e_R02_Compare

def L_R05_May : FuncId → Nat → Option (List Nat) := liveT [(37, 2, [0, 3]), (37, 1000002, []), (37, 2000002, [2])]
def M_R05_May : FuncId → Bool := fun _ => false
noncomputable def rd_R05_May_37_2 : List U → Rt
  | [.l v0, .i v1] =>
    (.test (decide (v1 < ln v0))
    (.test (inR v1 (ln v0))
    (.test (cI (el v0 v1) 1 == (0 : Int))
    (.stop 0 [.b false])
    (.test (inR v1 (ln v0))
    (let r0 : Rs := (Rt.res (m_R05_Fits [U.i (cI (el v0 v1) 1)]))
    (.test (ok r0 0)
    (.test (!uB (out r0 0) 0)
    (.stop 0 [.b false])
    (.test (inR v1 (ln v0))
    (let r1 : Rs := (Rt.res (m_R04_May [U.l (cL (el v0 v1) 0)]))
    (.test (ok r1 0)
    (.test (!uB (out r1 0) 0)
    (.stop 0 [.b false])
    (.test (decide (v1 > (0 : Int)))
    (.test (inR (w64 (v1 - (1 : Int))) (ln v0))
    (.test (inR v1 (ln v0))
    (let r2 : Rs := (Rt.res (m_R02_Compare [U.l (cL (el v0 (w64 (v1 - (1 : Int)))) 0), U.l (cL (el v0 v1) 0)]))
    (.test (ok r2 0)
    (.test (decide (uI (out r2 0) 0 ≥ (0 : Int)))
    (.stop 0 [.b false])
    (.next [.l v0, .i (w64 (v1 + (1 : Int)))]))
    .fail))
    .fail)
    .fail)
    (.next [.l v0, .i (w64 (v1 + (1 : Int)))])))
    .fail))
    .fail))
    .fail))
    .fail))
    .fail)
    (.stop 1 []))
  | _ => .fail
def sp_R05_May_37_2 : LSp := ⟨53, ⟨[(0, .one (.l 54)), (3, .one (.i .i64))], []⟩, [(.ret, ⟨[(2, .one (.b))], []⟩), (.exit 0, ⟨[], []⟩)]⟩
set_option maxRecDepth 100000 in
theorem rq_R05_May_37_2 (v0 : List (List PV)) (v1 : Int) : runK br Tryz.prog (callK br Tryz.prog X144 M_R05_May L_R05_May (lsT []) 40) M_R05_May (lsT [] 37 0) 40 0 (L_R05_May 37) (bodyOf Tryz.prog 37 2) (sp_R05_May_37_2.s.ts sp_R05_May_37_2.n [.l v0, .i v1]) (sp_R05_May_37_2.s.h [.l v0, .i v1]) (idc Tryz.prog 0 (L_R05_May 37) 2) =
    (rd_R05_May_37_2 [.l v0, .i v1]).go br (fun us' => some (.normal, sp_R05_May_37_2.s.ts sp_R05_May_37_2.n us', sp_R05_May_37_2.s.h us')) sp_R05_May_37_2.fin := by
  rw [← callF_eq, ← runF_eq]; kernel_rfl
theorem lo_R05_May_37_2 {R : Type} : LoopTells Tryz.prog X144 M_R05_May L_R05_May 0 (L_R05_May 37) (bodyOf Tryz.prog 37 2) (gL (R := R) sp_R05_May_37_2 rd_R05_May_37_2 br) :=
  loopTold (callK_ev (loopsOK_list rids noneIn) 40) (lsokIn (loopsOK_list rids noneIn) 37 0 2) (by kernel_rfl) sp_R05_May_37_2 rd_R05_May_37_2 rfl (by kernel_rfl) (by
    intro us v h; unfold rd_R05_May_37_2 at h; split at h
    · rename_i v0 v1; exact rq_R05_May_37_2 v0 v1
    · cases h)
noncomputable abbrev ll_R05_May_37_2 {R : Type} : List (Nat × Nat × Nat × Smy R) := (37, 0, 2, gL sp_R05_May_37_2 rd_R05_May_37_2 br) :: []
theorem lk_R05_May_37_2 {R : Type} : ∀ e ∈ ll_R05_May_37_2 (R := R), LoopTells Tryz.prog X144 M_R05_May L_R05_May e.2.1 (L_R05_May e.1) (bodyOf Tryz.prog e.1 e.2.2.1) e.2.2.2 := List.forall_mem_cons.2 ⟨lo_R05_May_37_2, noneIn⟩
def S_R05_May : FSp := ⟨[.one (.l 54)], [], [], [([.one (.b)], [])]⟩
noncomputable def m_R05_May : List U → Rt
  | [.l v0] =>
    (let r0 : Rs := (lres rd_R05_May_37_2 [U.l v0, U.i (0 : Int)])
    (.test (ok r0 0)
    (.stop 0 [.b (uB (out r0 0) 0)])
    (.test (ok r0 1)
    (.stop 0 [.b true])
    .fail)))
  | _ => .fail
set_option maxRecDepth 100000 in
theorem q_R05_May (v0 : List (List PV)) : callK br Tryz.prog X144 M_R05_May L_R05_May (lsT ll_R05_May_37_2) 60 37 (encs [.l v0] 0 S_R05_May.ap) (encH [.l v0] (ws S_R05_May.ap) S_R05_May.ah) (fun y => fixR Tryz.prog S_R05_May.plan S_R05_May.ah.length y) =
    (m_R05_May [.l v0]).go br (fun _ => none) S_R05_May.fin := by
  rw [← callF_eq]; kernel_rfl
theorem e_R05_May : EOK Tryz.prog 37 (gF S_R05_May m_R05_May) :=
  eokTold mixed named x144 (loopsOK_list rids lk_R05_May_37_2) 60 S_R05_May m_R05_May (by
    intro us v h; unfold m_R05_May at h; split at h
    · rename_i v0; exact q_R05_May v0
    · cases h) false
noncomputable abbrev X145 : Ext := extT [(37, (gF S_R05_May m_R05_May))] X144
theorem x145 : XOK Tryz.prog X145 := xok1 x144 e_R05_May

def L_R01_Digits : FuncId → Nat → Option (List Nat) := liveT [(72, 2, [0, 3]), (72, 1000002, [0, 3]), (72, 2000002, [2])]
def M_R01_Digits : FuncId → Bool := fun _ => false
noncomputable def rd_R01_Digits_72_2 : List U → Rt
  | [.i v0, .s v1] =>
    (.test (decide (v0 > (9 : Int)))
    (.test (decide ((0 : Int) ≤ Int.tmod v0 (10 : Int) ∧ Int.tmod v0 (10 : Int) ≤ IntKind.wrap IntKind.u64 (Int.tmod v0 (10 : Int) + (1 : Int)) ∧ IntKind.wrap IntKind.u64 (Int.tmod v0 (10 : Int) + (1 : Int)) ≤ (10 : Int)))
    (.test (decide (ByteArray.size (ByteArray.extract { data := #[(48 : UInt8), (49 : UInt8), (50 : UInt8), (51 : UInt8), (52 : UInt8), (53 : UInt8), (54 : UInt8), (55 : UInt8), (56 : UInt8), (57 : UInt8)] } (Int.toNat (Int.tmod v0 (10 : Int))) (Int.toNat (IntKind.wrap IntKind.u64 (Int.tmod v0 (10 : Int) + (1 : Int))))) + ByteArray.size v1 ≤ 9223372036854775807))
    (.next [.i (IntKind.wrap IntKind.u64 (Int.tdiv v0 (10 : Int))), .s (ByteArray.extract { data := #[(48 : UInt8), (49 : UInt8), (50 : UInt8), (51 : UInt8), (52 : UInt8), (53 : UInt8), (54 : UInt8), (55 : UInt8), (56 : UInt8), (57 : UInt8)] } (Int.toNat (Int.tmod v0 (10 : Int))) (Int.toNat (IntKind.wrap IntKind.u64 (Int.tmod v0 (10 : Int) + (1 : Int)))) ++ v1)])
    .fail)
    .fail)
    (.stop 0 [.i v0, .s v1]))
  | _ => .fail
def sp_R01_Digits_72_2 : LSp := ⟨22, ⟨[(0, .one (.i .u64)), (3, .one (.s))], []⟩, [(.exit 0, ⟨[(0, .one (.i .u64)), (3, .one (.s))], []⟩)]⟩
set_option maxRecDepth 100000 in
theorem rq_R01_Digits_72_2 (v0 : Int) (v1 : ByteArray) : runK br Tryz.prog (callK br Tryz.prog X145 M_R01_Digits L_R01_Digits (lsT []) 40) M_R01_Digits (lsT [] 72 0) 40 0 (L_R01_Digits 72) (bodyOf Tryz.prog 72 2) (sp_R01_Digits_72_2.s.ts sp_R01_Digits_72_2.n [.i v0, .s v1]) (sp_R01_Digits_72_2.s.h [.i v0, .s v1]) (idc Tryz.prog 0 (L_R01_Digits 72) 2) =
    (rd_R01_Digits_72_2 [.i v0, .s v1]).go br (fun us' => some (.normal, sp_R01_Digits_72_2.s.ts sp_R01_Digits_72_2.n us', sp_R01_Digits_72_2.s.h us')) sp_R01_Digits_72_2.fin := by
  rw [← callF_eq, ← runF_eq]; kernel_rfl
theorem lo_R01_Digits_72_2 {R : Type} : LoopTells Tryz.prog X145 M_R01_Digits L_R01_Digits 0 (L_R01_Digits 72) (bodyOf Tryz.prog 72 2) (gL (R := R) sp_R01_Digits_72_2 rd_R01_Digits_72_2 br) :=
  loopTold (callK_ev (loopsOK_list rids noneIn) 40) (lsokIn (loopsOK_list rids noneIn) 72 0 2) (by kernel_rfl) sp_R01_Digits_72_2 rd_R01_Digits_72_2 rfl (by kernel_rfl) (by
    intro us v h; unfold rd_R01_Digits_72_2 at h; split at h
    · rename_i v0 v1; exact rq_R01_Digits_72_2 v0 v1
    · cases h)
noncomputable abbrev ll_R01_Digits_72_2 {R : Type} : List (Nat × Nat × Nat × Smy R) := (72, 0, 2, gL sp_R01_Digits_72_2 rd_R01_Digits_72_2 br) :: []
theorem lk_R01_Digits_72_2 {R : Type} : ∀ e ∈ ll_R01_Digits_72_2 (R := R), LoopTells Tryz.prog X145 M_R01_Digits L_R01_Digits e.2.1 (L_R01_Digits e.1) (bodyOf Tryz.prog e.1 e.2.2.1) e.2.2.2 := List.forall_mem_cons.2 ⟨lo_R01_Digits_72_2, noneIn⟩
def S_R01_Digits : FSp := ⟨[.one (.i .u64)], [], [], [([.one (.s)], [])]⟩
noncomputable def m_R01_Digits : List U → Rt
  | [.i v0] =>
    (let r0 : Rs := (lres rd_R01_Digits_72_2 [U.i v0, U.s { data := #[] }])
    (.test (ok r0 0)
    (.test (decide ((0 : Int) ≤ uI (out r0 0) 0 ∧ uI (out r0 0) 0 ≤ IntKind.wrap IntKind.u64 (uI (out r0 0) 0 + (1 : Int)) ∧ IntKind.wrap IntKind.u64 (uI (out r0 0) 0 + (1 : Int)) ≤ (10 : Int)))
    (.test (decide (ByteArray.size (ByteArray.extract { data := #[(48 : UInt8), (49 : UInt8), (50 : UInt8), (51 : UInt8), (52 : UInt8), (53 : UInt8), (54 : UInt8), (55 : UInt8), (56 : UInt8), (57 : UInt8)] } (Int.toNat (uI (out r0 0) 0)) (Int.toNat (IntKind.wrap IntKind.u64 (uI (out r0 0) 0 + (1 : Int))))) + ByteArray.size (uS (out r0 0) 1) ≤ 9223372036854775807))
    (.stop 0 [.s (ByteArray.extract { data := #[(48 : UInt8), (49 : UInt8), (50 : UInt8), (51 : UInt8), (52 : UInt8), (53 : UInt8), (54 : UInt8), (55 : UInt8), (56 : UInt8), (57 : UInt8)] } (Int.toNat (uI (out r0 0) 0)) (Int.toNat (IntKind.wrap IntKind.u64 (uI (out r0 0) 0 + (1 : Int)))) ++ uS (out r0 0) 1)])
    .fail)
    .fail)
    .fail))
  | _ => .fail
set_option maxRecDepth 100000 in
theorem q_R01_Digits (v0 : Int) : callK br Tryz.prog X145 M_R01_Digits L_R01_Digits (lsT ll_R01_Digits_72_2) 60 72 (encs [.i v0] 0 S_R01_Digits.ap) (encH [.i v0] (ws S_R01_Digits.ap) S_R01_Digits.ah) (fun y => fixR Tryz.prog S_R01_Digits.plan S_R01_Digits.ah.length y) =
    (m_R01_Digits [.i v0]).go br (fun _ => none) S_R01_Digits.fin := by
  rw [← callF_eq]; kernel_rfl
theorem e_R01_Digits : EOK Tryz.prog 72 (gF S_R01_Digits m_R01_Digits) :=
  eokTold mixed named x145 (loopsOK_list rids lk_R01_Digits_72_2) 60 S_R01_Digits m_R01_Digits (by
    intro us v h; unfold m_R01_Digits at h; split at h
    · rename_i v0; exact q_R01_Digits v0
    · cases h) false
noncomputable abbrev X146 : Ext := extT [(72, (gF S_R01_Digits m_R01_Digits))] X145
theorem x146 : XOK Tryz.prog X146 := xok1 x145 e_R01_Digits

def L_R01_Signed : FuncId → Nat → Option (List Nat) := liveT []
def M_R01_Signed : FuncId → Bool := fun _ => false
def S_R01_Signed : FSp := ⟨[.one (.i .i64)], [], [], [([.one (.s)], [])]⟩
noncomputable def m_R01_Signed : List U → Rt
  | [.i v0] =>
    (.test (decide (v0 < (0 : Int)))
    (let r0 : Rs := (Rt.res (m_R01_Digits [U.i (IntKind.wrap IntKind.u64 (IntKind.wrap IntKind.u64 (w64 ((0 : Int) - w64 (v0 + (1 : Int)))) + (1 : Int)))]))
    (.test (ok r0 0)
    (.test (decide (1 + ByteArray.size (uS (out r0 0) 0) ≤ 9223372036854775807))
    (.stop 0 [.s ({ data := #[(45 : UInt8)] } ++ uS (out r0 0) 0)])
    .fail)
    .fail))
    (let r1 : Rs := (Rt.res (m_R01_Digits [U.i (IntKind.wrap IntKind.u64 v0)]))
    (.test (ok r1 0)
    (.stop 0 [.s (uS (out r1 0) 0)])
    .fail)))
  | _ => .fail
set_option maxRecDepth 100000 in
theorem q_R01_Signed (v0 : Int) : callK br Tryz.prog X146 M_R01_Signed L_R01_Signed (lsT []) 60 52 (encs [.i v0] 0 S_R01_Signed.ap) (encH [.i v0] (ws S_R01_Signed.ap) S_R01_Signed.ah) (fun y => fixR Tryz.prog S_R01_Signed.plan S_R01_Signed.ah.length y) =
    (m_R01_Signed [.i v0]).go br (fun _ => none) S_R01_Signed.fin := by
  rw [← callF_eq]; kernel_rfl
theorem e_R01_Signed : EOK Tryz.prog 52 (gF S_R01_Signed m_R01_Signed) :=
  eokTold mixed named x146 (loopsOK_list rids noneIn) 60 S_R01_Signed m_R01_Signed (by
    intro us v h; unfold m_R01_Signed at h; split at h
    · rename_i v0; exact q_R01_Signed v0
    · cases h) false
noncomputable abbrev X147 : Ext := extT [(52, (gF S_R01_Signed m_R01_Signed))] X146
theorem x147 : XOK Tryz.prog X147 := xok1 x146 e_R01_Signed

def L_R01_Text : FuncId → Nat → Option (List Nat) := liveT [(71, 13, [1, 3, 4]), (71, 1000013, [3]), (71, 2000013, [2])]
def M_R01_Text : FuncId → Bool := fun _ => false
noncomputable def rd_R01_Text_71_13 : List U → Rt
  | [.s v0, .i v1, .i v2, .i v3, .s v4] =>
    (.test (decide (v1 < (↑(ByteArray.size v4) : Int)))
    (.test (inR v1 (↑(ByteArray.size v4) : Int))
    (.test ((↑(UInt8.toNat (List.getD (Array.toList (ByteArray.data v4)) (Int.toNat v1) (0 : UInt8))) : Int) == (39 : Int))
    (.test (decide (ByteArray.size v0 + 1 ≤ 9223372036854775807))
    (.test (decide ((0 : Int) ≤ v1 ∧ v1 ≤ w64 (v1 + (1 : Int)) ∧ w64 (v1 + (1 : Int)) ≤ (↑(ByteArray.size v4) : Int)))
    (.test (decide (ByteArray.size (v0 ++ { data := #[(39 : UInt8)] }) + ByteArray.size (ByteArray.extract v4 (Int.toNat v1) (Int.toNat (w64 (v1 + (1 : Int))))) ≤ 9223372036854775807))
    (.next [.s (v0 ++ { data := #[(39 : UInt8)] } ++ ByteArray.extract v4 (Int.toNat v1) (Int.toNat (w64 (v1 + (1 : Int))))), .i (w64 (v1 + (1 : Int))), .i v2, .i v3, .s v4])
    .fail)
    .fail)
    .fail)
    (.test (decide ((0 : Int) ≤ v1 ∧ v1 ≤ w64 (v1 + (1 : Int)) ∧ w64 (v1 + (1 : Int)) ≤ (↑(ByteArray.size v4) : Int)))
    (.test (decide (ByteArray.size v0 + ByteArray.size (ByteArray.extract v4 (Int.toNat v1) (Int.toNat (w64 (v1 + (1 : Int))))) ≤ 9223372036854775807))
    (.next [.s (v0 ++ ByteArray.extract v4 (Int.toNat v1) (Int.toNat (w64 (v1 + (1 : Int))))), .i (w64 (v1 + (1 : Int))), .i v2, .i v3, .s v4])
    .fail)
    .fail))
    .fail)
    (.stop 0 [.s v0]))
  | _ => .fail
def sp_R01_Text_71_13 : LSp := ⟨45, ⟨[(1, .one (.ptr 0 0)), (3, .one (.s)), (4, .one (.i .i64))], [.box 56 [.one (.i .i64), .one (.i .i64), .one (.s)]]⟩, [(.exit 1, ⟨[(3, .one (.s))], []⟩)]⟩
set_option maxRecDepth 100000 in
theorem rq_R01_Text_71_13 (v0 : ByteArray) (v1 : Int) (v2 : Int) (v3 : Int) (v4 : ByteArray) : runK br Tryz.prog (callK br Tryz.prog X147 M_R01_Text L_R01_Text (lsT []) 40) M_R01_Text (lsT [] 71 0) 40 0 (L_R01_Text 71) (bodyOf Tryz.prog 71 13) (sp_R01_Text_71_13.s.ts sp_R01_Text_71_13.n [.s v0, .i v1, .i v2, .i v3, .s v4]) (sp_R01_Text_71_13.s.h [.s v0, .i v1, .i v2, .i v3, .s v4]) (idc Tryz.prog 0 (L_R01_Text 71) 13) =
    (rd_R01_Text_71_13 [.s v0, .i v1, .i v2, .i v3, .s v4]).go br (fun us' => some (.normal, sp_R01_Text_71_13.s.ts sp_R01_Text_71_13.n us', sp_R01_Text_71_13.s.h us')) sp_R01_Text_71_13.fin := by
  rw [← callF_eq, ← runF_eq]; kernel_rfl
theorem lo_R01_Text_71_13 {R : Type} : LoopTells Tryz.prog X147 M_R01_Text L_R01_Text 0 (L_R01_Text 71) (bodyOf Tryz.prog 71 13) (gL (R := R) sp_R01_Text_71_13 rd_R01_Text_71_13 br) :=
  loopTold (callK_ev (loopsOK_list rids noneIn) 40) (lsokIn (loopsOK_list rids noneIn) 71 0 13) (by kernel_rfl) sp_R01_Text_71_13 rd_R01_Text_71_13 rfl (by kernel_rfl) (by
    intro us v h; unfold rd_R01_Text_71_13 at h; split at h
    · rename_i v0 v1 v2 v3 v4; exact rq_R01_Text_71_13 v0 v1 v2 v3 v4
    · cases h)
noncomputable abbrev ll_R01_Text_71_13 {R : Type} : List (Nat × Nat × Nat × Smy R) := (71, 0, 13, gL sp_R01_Text_71_13 rd_R01_Text_71_13 br) :: []
theorem lk_R01_Text_71_13 {R : Type} : ∀ e ∈ ll_R01_Text_71_13 (R := R), LoopTells Tryz.prog X147 M_R01_Text L_R01_Text e.2.1 (L_R01_Text e.1) (bodyOf Tryz.prog e.1 e.2.2.1) e.2.2.2 := List.forall_mem_cons.2 ⟨lo_R01_Text_71_13, noneIn⟩
def S_R01_Text : FSp := ⟨[.agg [.i .i64, .i .i64, .s]], [], [], [([.one (.s)], [])]⟩
noncomputable def m_R01_Text : List U → Rt
  | [.i v0, .i v1, .s v2] =>
    (.test (v0 == (0 : Int))
    (.stop 0 [.s ({ data := #[(110 : UInt8), (117 : UInt8), (108 : UInt8), (108 : UInt8)] })])
    (.test (v0 == (1 : Int))
    (.test (v1 == (0 : Int))
    (.stop 0 [.s ({ data := #[(102 : UInt8), (97 : UInt8), (108 : UInt8), (115 : UInt8), (101 : UInt8)] })])
    (.stop 0 [.s ({ data := #[(116 : UInt8), (114 : UInt8), (117 : UInt8), (101 : UInt8)] })]))
    (.test (v0 == (2 : Int))
    (let r0 : Rs := (Rt.res (m_R01_Signed [U.i v1]))
    (.test (ok r0 0)
    (.stop 0 [.s (uS (out r0 0) 0)])
    .fail))
    (.test (v0 == (3 : Int))
    (let r1 : Rs := (lres rd_R01_Text_71_13 [U.s { data := #[(39 : UInt8)] }, U.i (0 : Int), U.i v0, U.i v1, U.s v2])
    (.test (ok r1 0)
    (.test (decide (ByteArray.size (uS (out r1 0) 0) + 1 ≤ 9223372036854775807))
    (.stop 0 [.s (uS (out r1 0) 0 ++ { data := #[(39 : UInt8)] })])
    .fail)
    .fail))
    (.stop 0 [.s ({ data := #[(63 : UInt8)] })])))))
  | _ => .fail
set_option maxRecDepth 100000 in
theorem q_R01_Text (v0 : Int) (v1 : Int) (v2 : ByteArray) : callK br Tryz.prog X147 M_R01_Text L_R01_Text (lsT ll_R01_Text_71_13) 60 71 (encs [.i v0, .i v1, .s v2] 0 S_R01_Text.ap) (encH [.i v0, .i v1, .s v2] (ws S_R01_Text.ap) S_R01_Text.ah) (fun y => fixR Tryz.prog S_R01_Text.plan S_R01_Text.ah.length y) =
    (m_R01_Text [.i v0, .i v1, .s v2]).go br (fun _ => none) S_R01_Text.fin := by
  rw [← callF_eq]; kernel_rfl
theorem e_R01_Text : EOK Tryz.prog 71 (gF S_R01_Text m_R01_Text) :=
  eokTold mixed named x147 (loopsOK_list rids lk_R01_Text_71_13) 60 S_R01_Text m_R01_Text (by
    intro us v h; unfold m_R01_Text at h; split at h
    · rename_i v0 v1 v2; exact q_R01_Text v0 v1 v2
    · cases h) false
noncomputable abbrev X148 : Ext := extT [(71, (gF S_R01_Text m_R01_Text))] X147
theorem x148 : XOK Tryz.prog X148 := xok1 x147 e_R01_Text

def L_R04_Text : FuncId → Nat → Option (List Nat) := liveT [(51, 3, [0, 3, 4]), (51, 1000003, [3]), (51, 2000003, [2])]
def M_R04_Text : FuncId → Bool := fun _ => false
noncomputable def rd_R04_Text_51_3 : List U → Rt
  | [.l v0, .s v1, .i v2] =>
    (.test (decide (v2 < ln v0))
    (.test (decide (v2 > (0 : Int)))
    (.test (decide (ByteArray.size v1 + 2 ≤ 9223372036854775807))
    (.test (inR v2 (ln v0))
    (let r0 : Rs := (Rt.res (m_R01_Text [U.i (cI (el v0 v2) 0), U.i (cI (el v0 v2) 1), U.s (cS (el v0 v2) 2)]))
    (.test (ok r0 0)
    (.test (decide (ByteArray.size (v1 ++ { data := #[(44 : UInt8), (32 : UInt8)] }) + ByteArray.size (uS (out r0 0) 0) ≤ 9223372036854775807))
    (.next [.l v0, .s (v1 ++ { data := #[(44 : UInt8), (32 : UInt8)] } ++ uS (out r0 0) 0), .i (w64 (v2 + (1 : Int)))])
    .fail)
    .fail))
    .fail)
    .fail)
    (.test (inR v2 (ln v0))
    (let r1 : Rs := (Rt.res (m_R01_Text [U.i (cI (el v0 v2) 0), U.i (cI (el v0 v2) 1), U.s (cS (el v0 v2) 2)]))
    (.test (ok r1 0)
    (.test (decide (ByteArray.size v1 + ByteArray.size (uS (out r1 0) 0) ≤ 9223372036854775807))
    (.next [.l v0, .s (v1 ++ uS (out r1 0) 0), .i (w64 (v2 + (1 : Int)))])
    .fail)
    .fail))
    .fail))
    (.stop 0 [.s v1]))
  | _ => .fail
def sp_R04_Text_51_3 : LSp := ⟨24, ⟨[(0, .one (.l 56)), (3, .one (.s)), (4, .one (.i .i64))], []⟩, [(.exit 0, ⟨[(3, .one (.s))], []⟩)]⟩
set_option maxRecDepth 100000 in
theorem rq_R04_Text_51_3 (v0 : List (List PV)) (v1 : ByteArray) (v2 : Int) : runK br Tryz.prog (callK br Tryz.prog X148 M_R04_Text L_R04_Text (lsT []) 40) M_R04_Text (lsT [] 51 0) 40 0 (L_R04_Text 51) (bodyOf Tryz.prog 51 3) (sp_R04_Text_51_3.s.ts sp_R04_Text_51_3.n [.l v0, .s v1, .i v2]) (sp_R04_Text_51_3.s.h [.l v0, .s v1, .i v2]) (idc Tryz.prog 0 (L_R04_Text 51) 3) =
    (rd_R04_Text_51_3 [.l v0, .s v1, .i v2]).go br (fun us' => some (.normal, sp_R04_Text_51_3.s.ts sp_R04_Text_51_3.n us', sp_R04_Text_51_3.s.h us')) sp_R04_Text_51_3.fin := by
  rw [← callF_eq, ← runF_eq]; kernel_rfl
theorem lo_R04_Text_51_3 {R : Type} : LoopTells Tryz.prog X148 M_R04_Text L_R04_Text 0 (L_R04_Text 51) (bodyOf Tryz.prog 51 3) (gL (R := R) sp_R04_Text_51_3 rd_R04_Text_51_3 br) :=
  loopTold (callK_ev (loopsOK_list rids noneIn) 40) (lsokIn (loopsOK_list rids noneIn) 51 0 3) (by kernel_rfl) sp_R04_Text_51_3 rd_R04_Text_51_3 rfl (by kernel_rfl) (by
    intro us v h; unfold rd_R04_Text_51_3 at h; split at h
    · rename_i v0 v1 v2; exact rq_R04_Text_51_3 v0 v1 v2
    · cases h)
noncomputable abbrev ll_R04_Text_51_3 {R : Type} : List (Nat × Nat × Nat × Smy R) := (51, 0, 3, gL sp_R04_Text_51_3 rd_R04_Text_51_3 br) :: []
theorem lk_R04_Text_51_3 {R : Type} : ∀ e ∈ ll_R04_Text_51_3 (R := R), LoopTells Tryz.prog X148 M_R04_Text L_R04_Text e.2.1 (L_R04_Text e.1) (bodyOf Tryz.prog e.1 e.2.2.1) e.2.2.2 := List.forall_mem_cons.2 ⟨lo_R04_Text_51_3, noneIn⟩
def S_R04_Text : FSp := ⟨[.one (.l 56)], [], [], [([.one (.s)], [])]⟩
noncomputable def m_R04_Text : List U → Rt
  | [.l v0] =>
    (let r0 : Rs := (lres rd_R04_Text_51_3 [U.l v0, U.s { data := #[(40 : UInt8)] }, U.i (0 : Int)])
    (.test (ok r0 0)
    (.test (decide (ByteArray.size (uS (out r0 0) 0) + 1 ≤ 9223372036854775807))
    (.stop 0 [.s (uS (out r0 0) 0 ++ { data := #[(41 : UInt8)] })])
    .fail)
    .fail))
  | _ => .fail
set_option maxRecDepth 100000 in
theorem q_R04_Text (v0 : List (List PV)) : callK br Tryz.prog X148 M_R04_Text L_R04_Text (lsT ll_R04_Text_51_3) 60 51 (encs [.l v0] 0 S_R04_Text.ap) (encH [.l v0] (ws S_R04_Text.ap) S_R04_Text.ah) (fun y => fixR Tryz.prog S_R04_Text.plan S_R04_Text.ah.length y) =
    (m_R04_Text [.l v0]).go br (fun _ => none) S_R04_Text.fin := by
  rw [← callF_eq]; kernel_rfl
theorem e_R04_Text : EOK Tryz.prog 51 (gF S_R04_Text m_R04_Text) :=
  eokTold mixed named x148 (loopsOK_list rids lk_R04_Text_51_3) 60 S_R04_Text m_R04_Text (by
    intro us v h; unfold m_R04_Text at h; split at h
    · rename_i v0; exact q_R04_Text v0
    · cases h) false
noncomputable abbrev X149 : Ext := extT [(51, (gF S_R04_Text m_R04_Text))] X148
theorem x149 : XOK Tryz.prog X149 := xok1 x148 e_R04_Text

def L_R05_Text : FuncId → Nat → Option (List Nat) := liveT [(29, 3, [0, 3, 4]), (29, 1000003, [3]), (29, 2000003, [2])]
def M_R05_Text : FuncId → Bool := fun _ => false
noncomputable def rd_R05_Text_29_3 : List U → Rt
  | [.l v0, .s v1, .i v2] =>
    (.test (decide (v2 < ln v0))
    (let r0 : Rs := (Rt.res (m_R05_May [U.l v0]))
    (.test (ok r0 0)
    (.test (uB (out r0 0) 0)
    (.test (decide (v2 > (0 : Int)))
    (.test (decide (ByteArray.size v1 + 1 ≤ 9223372036854775807))
    (.test (inR v2 (ln v0))
    (let r1 : Rs := (Rt.res (m_R04_Text [U.l (cL (el v0 v2) 0)]))
    (.test (ok r1 0)
    (.test (decide (ByteArray.size (v1 ++ { data := #[(32 : UInt8)] }) + ByteArray.size (uS (out r1 0) 0) ≤ 9223372036854775807))
    (.test (inR v2 (ln v0))
    (.test (cI (el v0 v2) 1 != (1 : Int))
    (.test (inR v2 (ln v0))
    (let r2 : Rs := (Rt.res (m_R01_Signed [U.i (cI (el v0 v2) 1)]))
    (.test (ok r2 0)
    (.test (decide (1 + ByteArray.size (uS (out r2 0) 0) ≤ 9223372036854775807))
    (.test (decide (ByteArray.size (v1 ++ { data := #[(32 : UInt8)] } ++ uS (out r1 0) 0) + ByteArray.size ({ data := #[(42 : UInt8)] } ++ uS (out r2 0) 0) ≤ 9223372036854775807))
    (.next [.l v0, .s (v1 ++ { data := #[(32 : UInt8)] } ++ uS (out r1 0) 0 ++ ({ data := #[(42 : UInt8)] } ++ uS (out r2 0) 0)), .i (w64 (v2 + (1 : Int)))])
    .fail)
    .fail)
    .fail))
    .fail)
    (.next [.l v0, .s (v1 ++ { data := #[(32 : UInt8)] } ++ uS (out r1 0) 0), .i (w64 (v2 + (1 : Int)))]))
    .fail)
    .fail)
    .fail))
    .fail)
    .fail)
    (.test (inR v2 (ln v0))
    (let r3 : Rs := (Rt.res (m_R04_Text [U.l (cL (el v0 v2) 0)]))
    (.test (ok r3 0)
    (.test (decide (ByteArray.size v1 + ByteArray.size (uS (out r3 0) 0) ≤ 9223372036854775807))
    (.test (inR v2 (ln v0))
    (.test (cI (el v0 v2) 1 != (1 : Int))
    (.test (inR v2 (ln v0))
    (let r4 : Rs := (Rt.res (m_R01_Signed [U.i (cI (el v0 v2) 1)]))
    (.test (ok r4 0)
    (.test (decide (1 + ByteArray.size (uS (out r4 0) 0) ≤ 9223372036854775807))
    (.test (decide (ByteArray.size (v1 ++ uS (out r3 0) 0) + ByteArray.size ({ data := #[(42 : UInt8)] } ++ uS (out r4 0) 0) ≤ 9223372036854775807))
    (.next [.l v0, .s (v1 ++ uS (out r3 0) 0 ++ ({ data := #[(42 : UInt8)] } ++ uS (out r4 0) 0)), .i (w64 (v2 + (1 : Int)))])
    .fail)
    .fail)
    .fail))
    .fail)
    (.next [.l v0, .s (v1 ++ uS (out r3 0) 0), .i (w64 (v2 + (1 : Int)))]))
    .fail)
    .fail)
    .fail))
    .fail))
    (.stop 0 [.s v1]))
    .fail))
    (.stop 0 [.s v1]))
  | _ => .fail
def sp_R05_Text_29_3 : LSp := ⟨43, ⟨[(0, .one (.l 54)), (3, .one (.s)), (4, .one (.i .i64))], []⟩, [(.exit 0, ⟨[(3, .one (.s))], []⟩)]⟩
set_option maxRecDepth 100000 in
theorem rq_R05_Text_29_3 (v0 : List (List PV)) (v1 : ByteArray) (v2 : Int) : runK br Tryz.prog (callK br Tryz.prog X149 M_R05_Text L_R05_Text (lsT []) 40) M_R05_Text (lsT [] 29 0) 40 0 (L_R05_Text 29) (bodyOf Tryz.prog 29 3) (sp_R05_Text_29_3.s.ts sp_R05_Text_29_3.n [.l v0, .s v1, .i v2]) (sp_R05_Text_29_3.s.h [.l v0, .s v1, .i v2]) (idc Tryz.prog 0 (L_R05_Text 29) 3) =
    (rd_R05_Text_29_3 [.l v0, .s v1, .i v2]).go br (fun us' => some (.normal, sp_R05_Text_29_3.s.ts sp_R05_Text_29_3.n us', sp_R05_Text_29_3.s.h us')) sp_R05_Text_29_3.fin := by
  rw [← callF_eq, ← runF_eq]; kernel_rfl
theorem lo_R05_Text_29_3 {R : Type} : LoopTells Tryz.prog X149 M_R05_Text L_R05_Text 0 (L_R05_Text 29) (bodyOf Tryz.prog 29 3) (gL (R := R) sp_R05_Text_29_3 rd_R05_Text_29_3 br) :=
  loopTold (callK_ev (loopsOK_list rids noneIn) 40) (lsokIn (loopsOK_list rids noneIn) 29 0 3) (by kernel_rfl) sp_R05_Text_29_3 rd_R05_Text_29_3 rfl (by kernel_rfl) (by
    intro us v h; unfold rd_R05_Text_29_3 at h; split at h
    · rename_i v0 v1 v2; exact rq_R05_Text_29_3 v0 v1 v2
    · cases h)
noncomputable abbrev ll_R05_Text_29_3 {R : Type} : List (Nat × Nat × Nat × Smy R) := (29, 0, 3, gL sp_R05_Text_29_3 rd_R05_Text_29_3 br) :: []
theorem lk_R05_Text_29_3 {R : Type} : ∀ e ∈ ll_R05_Text_29_3 (R := R), LoopTells Tryz.prog X149 M_R05_Text L_R05_Text e.2.1 (L_R05_Text e.1) (bodyOf Tryz.prog e.1 e.2.2.1) e.2.2.2 := List.forall_mem_cons.2 ⟨lo_R05_Text_29_3, noneIn⟩
def S_R05_Text : FSp := ⟨[.one (.l 54)], [], [], [([.one (.s)], [])]⟩
noncomputable def m_R05_Text : List U → Rt
  | [.l v0] =>
    (let r0 : Rs := (lres rd_R05_Text_29_3 [U.l v0, U.s { data := #[] }, U.i (0 : Int)])
    (.test (ok r0 0)
    (.stop 0 [.s (uS (out r0 0) 0)])
    .fail))
  | _ => .fail
set_option maxRecDepth 100000 in
theorem q_R05_Text (v0 : List (List PV)) : callK br Tryz.prog X149 M_R05_Text L_R05_Text (lsT ll_R05_Text_29_3) 60 29 (encs [.l v0] 0 S_R05_Text.ap) (encH [.l v0] (ws S_R05_Text.ap) S_R05_Text.ah) (fun y => fixR Tryz.prog S_R05_Text.plan S_R05_Text.ah.length y) =
    (m_R05_Text [.l v0]).go br (fun _ => none) S_R05_Text.fin := by
  rw [← callF_eq]; kernel_rfl
theorem e_R05_Text : EOK Tryz.prog 29 (gF S_R05_Text m_R05_Text) :=
  eokTold mixed named x149 (loopsOK_list rids lk_R05_Text_29_3) 60 S_R05_Text m_R05_Text (by
    intro us v h; unfold m_R05_Text at h; split at h
    · rename_i v0; exact q_R05_Text v0
    · cases h) false
noncomputable abbrev X150 : Ext := extT [(29, (gF S_R05_Text m_R05_Text))] X149
theorem x150 : XOK Tryz.prog X150 := xok1 x149 e_R05_Text

def L_R05_Same : FuncId → Nat → Option (List Nat) := liveT [(13, 4, [0, 1, 5]), (13, 1000004, []), (13, 2000004, [4])]
def M_R05_Same : FuncId → Bool := fun _ => false
noncomputable def rd_R05_Same_13_4 : List U → Rt
  | [.l v0, .l v1, .i v2] =>
    (.test (decide (v2 < ln v0))
    (.test (inR v2 (ln v0))
    (.test (inR v2 (ln v1))
    (.test (cI (el v0 v2) 1 != cI (el v1 v2) 1)
    (.stop 0 [.b false])
    (.test (inR v2 (ln v0))
    (.test (inR v2 (ln v1))
    (let r0 : Rs := (Rt.res (m_R02_Compare [U.l (cL (el v0 v2) 0), U.l (cL (el v1 v2) 0)]))
    (.test (ok r0 0)
    (.test (uI (out r0 0) 0 != (0 : Int))
    (.stop 0 [.b false])
    (.next [.l v0, .l v1, .i (w64 (v2 + (1 : Int)))]))
    .fail))
    .fail)
    .fail))
    .fail)
    .fail)
    (.stop 1 []))
  | _ => .fail
def sp_R05_Same_13_4 : LSp := ⟨42, ⟨[(0, .one (.l 54)), (1, .one (.l 54)), (5, .one (.i .i64))], []⟩, [(.ret, ⟨[(4, .one (.b))], []⟩), (.exit 0, ⟨[], []⟩)]⟩
set_option maxRecDepth 100000 in
theorem rq_R05_Same_13_4 (v0 : List (List PV)) (v1 : List (List PV)) (v2 : Int) : runK br Tryz.prog (callK br Tryz.prog X150 M_R05_Same L_R05_Same (lsT []) 40) M_R05_Same (lsT [] 13 0) 40 0 (L_R05_Same 13) (bodyOf Tryz.prog 13 4) (sp_R05_Same_13_4.s.ts sp_R05_Same_13_4.n [.l v0, .l v1, .i v2]) (sp_R05_Same_13_4.s.h [.l v0, .l v1, .i v2]) (idc Tryz.prog 0 (L_R05_Same 13) 4) =
    (rd_R05_Same_13_4 [.l v0, .l v1, .i v2]).go br (fun us' => some (.normal, sp_R05_Same_13_4.s.ts sp_R05_Same_13_4.n us', sp_R05_Same_13_4.s.h us')) sp_R05_Same_13_4.fin := by
  rw [← callF_eq, ← runF_eq]; kernel_rfl
theorem lo_R05_Same_13_4 {R : Type} : LoopTells Tryz.prog X150 M_R05_Same L_R05_Same 0 (L_R05_Same 13) (bodyOf Tryz.prog 13 4) (gL (R := R) sp_R05_Same_13_4 rd_R05_Same_13_4 br) :=
  loopTold (callK_ev (loopsOK_list rids noneIn) 40) (lsokIn (loopsOK_list rids noneIn) 13 0 4) (by kernel_rfl) sp_R05_Same_13_4 rd_R05_Same_13_4 rfl (by kernel_rfl) (by
    intro us v h; unfold rd_R05_Same_13_4 at h; split at h
    · rename_i v0 v1 v2; exact rq_R05_Same_13_4 v0 v1 v2
    · cases h)
noncomputable abbrev ll_R05_Same_13_4 {R : Type} : List (Nat × Nat × Nat × Smy R) := (13, 0, 4, gL sp_R05_Same_13_4 rd_R05_Same_13_4 br) :: []
theorem lk_R05_Same_13_4 {R : Type} : ∀ e ∈ ll_R05_Same_13_4 (R := R), LoopTells Tryz.prog X150 M_R05_Same L_R05_Same e.2.1 (L_R05_Same e.1) (bodyOf Tryz.prog e.1 e.2.2.1) e.2.2.2 := List.forall_mem_cons.2 ⟨lo_R05_Same_13_4, noneIn⟩
def S_R05_Same : FSp := ⟨[.one (.l 54), .one (.l 54)], [], [], [([.one (.b)], [])]⟩
noncomputable def m_R05_Same : List U → Rt
  | [.l v0, .l v1] =>
    (.test (ln v0 != ln v1)
    (.stop 0 [.b false])
    (let r0 : Rs := (lres rd_R05_Same_13_4 [U.l v0, U.l v1, U.i (0 : Int)])
    (.test (ok r0 0)
    (.stop 0 [.b (uB (out r0 0) 0)])
    (.test (ok r0 1)
    (.stop 0 [.b true])
    .fail))))
  | _ => .fail
set_option maxRecDepth 100000 in
theorem q_R05_Same (v0 : List (List PV)) (v1 : List (List PV)) : callK br Tryz.prog X150 M_R05_Same L_R05_Same (lsT ll_R05_Same_13_4) 60 13 (encs [.l v0, .l v1] 0 S_R05_Same.ap) (encH [.l v0, .l v1] (ws S_R05_Same.ap) S_R05_Same.ah) (fun y => fixR Tryz.prog S_R05_Same.plan S_R05_Same.ah.length y) =
    (m_R05_Same [.l v0, .l v1]).go br (fun _ => none) S_R05_Same.fin := by
  rw [← callF_eq]; kernel_rfl
theorem e_R05_Same : EOK Tryz.prog 13 (gF S_R05_Same m_R05_Same) :=
  eokTold mixed named x150 (loopsOK_list rids lk_R05_Same_13_4) 60 S_R05_Same m_R05_Same (by
    intro us v h; unfold m_R05_Same at h; split at h
    · rename_i v0 v1; exact q_R05_Same v0 v1
    · cases h) false
noncomputable abbrev X151 : Ext := extT [(13, (gF S_R05_Same m_R05_Same))] X150
theorem x151 : XOK Tryz.prog X151 := xok1 x150 e_R05_Same

def L_L10_fixed : FuncId → Nat → Option (List Nat) := liveT []
def M_L10_fixed : FuncId → Bool := fun f => f == 62 || f == 78 || f == 89 || f == 90 || f == 106 || f == 120
def S_L10_fixed : FSp := ⟨[], [], [], [([.one (.b)], [])]⟩
noncomputable def m_L10_fixed : List U → Rt
  | [] =>
    (.stop 0 [.b true])
  | _ => .fail
set_option maxRecDepth 100000 in
theorem q_L10_fixed : callK br Tryz.prog XI M_L10_fixed L_L10_fixed (lsT []) 60 8 (encs [] 0 S_L10_fixed.ap) (encH [] (ws S_L10_fixed.ap) S_L10_fixed.ah) (fun y => fixR Tryz.prog S_L10_fixed.plan S_L10_fixed.ah.length y) =
    (m_L10_fixed []).go br (fun _ => none) S_L10_fixed.fin := by
  rw [← callF_eq]; kernel_rfl
theorem e_L10_fixed : EOK Tryz.prog 8 (gI S_L10_fixed m_L10_fixed) :=
  eokTold mixed named xI (loopsOK_list rids noneIn) 60 S_L10_fixed m_L10_fixed (by
    intro us v h; unfold m_L10_fixed at h; split at h
    · exact q_L10_fixed
    · cases h) true
noncomputable abbrev X152 : Ext := extT [(8, (gI S_L10_fixed m_L10_fixed))] X151
theorem x152 : XOK Tryz.prog X152 := xok1 x151 e_L10_fixed

def L_L13_one : FuncId → Nat → Option (List Nat) := liveT []
def M_L13_one : FuncId → Bool := fun _ => false
def S_L13_one : FSp := ⟨[.one (.i .i64), .one (.i .i64)], [], [], [([.one (.all 0)], [.arr 54 true])]⟩
noncomputable def m_L13_one : List U → Rt
  | [.i v0, .i v1] =>
    (.stop 0 [.l ([[PV.lst 56 [[pI (2 : Int), pI v0, pS { data := #[] }]], pI v1]])])
  | _ => .fail
set_option maxRecDepth 100000 in
theorem q_L13_one (v0 : Int) (v1 : Int) : callK br Tryz.prog X152 M_L13_one L_L13_one (lsT []) 60 49 (encs [.i v0, .i v1] 0 S_L13_one.ap) (encH [.i v0, .i v1] (ws S_L13_one.ap) S_L13_one.ah) (fun y => fixR Tryz.prog S_L13_one.plan S_L13_one.ah.length y) =
    (m_L13_one [.i v0, .i v1]).go br (fun _ => none) S_L13_one.fin := by
  rw [← callF_eq]; kernel_rfl
theorem e_L13_one : EOK Tryz.prog 49 (gI S_L13_one m_L13_one) :=
  eokTold mixed named x152 (loopsOK_list rids noneIn) 60 S_L13_one m_L13_one (by
    intro us v h; unfold m_L13_one at h; split at h
    · rename_i v0 v1; exact q_L13_one v0 v1
    · cases h) true
noncomputable abbrev X153 : Ext := extT [(49, (gI S_L13_one m_L13_one))] X152
theorem x153 : XOK Tryz.prog X153 := xok1 x152 e_L13_one

def L_L13_fixed : FuncId → Nat → Option (List Nat) := liveT []
def M_L13_fixed : FuncId → Bool := fun f => f == 62 || f == 78 || f == 89 || f == 90 || f == 106 || f == 120
def S_L13_fixed : FSp := ⟨[], [], [], [([.one (.b)], [])]⟩
noncomputable def m_L13_fixed : List U → Rt
  | [] =>
    (.stop 0 [.b true])
  | _ => .fail
set_option maxRecDepth 100000 in
theorem q_L13_fixed : callK br Tryz.prog XI M_L13_fixed L_L13_fixed (lsT []) 60 17 (encs [] 0 S_L13_fixed.ap) (encH [] (ws S_L13_fixed.ap) S_L13_fixed.ah) (fun y => fixR Tryz.prog S_L13_fixed.plan S_L13_fixed.ah.length y) =
    (m_L13_fixed []).go br (fun _ => none) S_L13_fixed.fin := by
  rw [← callF_eq]; kernel_rfl
theorem e_L13_fixed : EOK Tryz.prog 17 (gI S_L13_fixed m_L13_fixed) :=
  eokTold mixed named xI (loopsOK_list rids noneIn) 60 S_L13_fixed m_L13_fixed (by
    intro us v h; unfold m_L13_fixed at h; split at h
    · exact q_L13_fixed
    · cases h) true
noncomputable abbrev X154 : Ext := extT [(17, (gI S_L13_fixed m_L13_fixed))] X153
theorem x154 : XOK Tryz.prog X154 := xok1 x153 e_L13_fixed

def L_R02_Short : FuncId → Nat → Option (List Nat) := liveT [(26, 2, [0, 3]), (26, 1000002, [0]), (26, 2000002, [2])]
def M_R02_Short : FuncId → Bool := fun _ => false
noncomputable def rd_R02_Short_26_2 : List U → Rt
  | [.l v0, .i v1] =>
    (.test (decide (v1 < ln v0))
    (.test (inR v1 (ln v0))
    (.test (decide ((↑(ByteArray.size (cS (el v0 v1) 2)) : Int) > (1000 : Int)))
    (.stop 0 [.b false])
    (.next [.l v0, .i (w64 (v1 + (1 : Int)))]))
    .fail)
    (.stop 1 [.l v0]))
  | _ => .fail
def sp_R02_Short_26_2 : LSp := ⟨20, ⟨[(0, .one (.l 56)), (3, .one (.i .i64))], []⟩, [(.ret, ⟨[(2, .one (.b))], []⟩), (.exit 0, ⟨[(0, .one (.l 56))], []⟩)]⟩
set_option maxRecDepth 100000 in
theorem rq_R02_Short_26_2 (v0 : List (List PV)) (v1 : Int) : runK br Tryz.prog (callK br Tryz.prog X154 M_R02_Short L_R02_Short (lsT []) 40) M_R02_Short (lsT [] 26 0) 40 0 (L_R02_Short 26) (bodyOf Tryz.prog 26 2) (sp_R02_Short_26_2.s.ts sp_R02_Short_26_2.n [.l v0, .i v1]) (sp_R02_Short_26_2.s.h [.l v0, .i v1]) (idc Tryz.prog 0 (L_R02_Short 26) 2) =
    (rd_R02_Short_26_2 [.l v0, .i v1]).go br (fun us' => some (.normal, sp_R02_Short_26_2.s.ts sp_R02_Short_26_2.n us', sp_R02_Short_26_2.s.h us')) sp_R02_Short_26_2.fin := by
  rw [← callF_eq, ← runF_eq]; kernel_rfl
theorem lo_R02_Short_26_2 {R : Type} : LoopTells Tryz.prog X154 M_R02_Short L_R02_Short 0 (L_R02_Short 26) (bodyOf Tryz.prog 26 2) (gL (R := R) sp_R02_Short_26_2 rd_R02_Short_26_2 br) :=
  loopTold (callK_ev (loopsOK_list rids noneIn) 40) (lsokIn (loopsOK_list rids noneIn) 26 0 2) (by kernel_rfl) sp_R02_Short_26_2 rd_R02_Short_26_2 rfl (by kernel_rfl) (by
    intro us v h; unfold rd_R02_Short_26_2 at h; split at h
    · rename_i v0 v1; exact rq_R02_Short_26_2 v0 v1
    · cases h)
noncomputable abbrev ll_R02_Short_26_2 {R : Type} : List (Nat × Nat × Nat × Smy R) := (26, 0, 2, gL sp_R02_Short_26_2 rd_R02_Short_26_2 br) :: []
theorem lk_R02_Short_26_2 {R : Type} : ∀ e ∈ ll_R02_Short_26_2 (R := R), LoopTells Tryz.prog X154 M_R02_Short L_R02_Short e.2.1 (L_R02_Short e.1) (bodyOf Tryz.prog e.1 e.2.2.1) e.2.2.2 := List.forall_mem_cons.2 ⟨lo_R02_Short_26_2, noneIn⟩
def S_R02_Short : FSp := ⟨[.one (.l 56)], [], [], [([.one (.b)], [])]⟩
noncomputable def m_R02_Short : List U → Rt
  | [.l v0] =>
    (let r0 : Rs := (lres rd_R02_Short_26_2 [U.l v0, U.i (0 : Int)])
    (.test (ok r0 0)
    (.stop 0 [.b (uB (out r0 0) 0)])
    (.test (ok r0 1)
    (.stop 0 [.b (decide (ln (uL (out r0 1) 0) ≤ (40 : Int)))])
    .fail)))
  | _ => .fail
set_option maxRecDepth 100000 in
theorem q_R02_Short (v0 : List (List PV)) : callK br Tryz.prog X154 M_R02_Short L_R02_Short (lsT ll_R02_Short_26_2) 60 26 (encs [.l v0] 0 S_R02_Short.ap) (encH [.l v0] (ws S_R02_Short.ap) S_R02_Short.ah) (fun y => fixR Tryz.prog S_R02_Short.plan S_R02_Short.ah.length y) =
    (m_R02_Short [.l v0]).go br (fun _ => none) S_R02_Short.fin := by
  rw [← callF_eq]; kernel_rfl
theorem e_R02_Short : EOK Tryz.prog 26 (gF S_R02_Short m_R02_Short) :=
  eokTold mixed named x154 (loopsOK_list rids lk_R02_Short_26_2) 60 S_R02_Short m_R02_Short (by
    intro us v h; unfold m_R02_Short at h; split at h
    · rename_i v0; exact q_R02_Short v0
    · cases h) false
noncomputable abbrev X155 : Ext := extT [(26, (gF S_R02_Short m_R02_Short))] X154
theorem x155 : XOK Tryz.prog X155 := xok1 x154 e_R02_Short

def L_R05_Small : FuncId → Nat → Option (List Nat) := liveT [(7, 2, [0, 3]), (7, 1000002, [0]), (7, 2000002, [2])]
def M_R05_Small : FuncId → Bool := fun _ => false
noncomputable def rd_R05_Small_7_2 : List U → Rt
  | [.l v0, .i v1] =>
    (.test (decide (v1 < ln v0))
    (.test (inR v1 (ln v0))
    (let r0 : Rs := (Rt.res (m_R02_Short [U.l (cL (el v0 v1) 0)]))
    (.test (ok r0 0)
    (.test (!uB (out r0 0) 0)
    (.stop 0 [.b false])
    (.next [.l v0, .i (w64 (v1 + (1 : Int)))]))
    .fail))
    .fail)
    (.stop 1 [.l v0]))
  | _ => .fail
def sp_R05_Small_7_2 : LSp := ⟨20, ⟨[(0, .one (.l 54)), (3, .one (.i .i64))], []⟩, [(.ret, ⟨[(2, .one (.b))], []⟩), (.exit 0, ⟨[(0, .one (.l 54))], []⟩)]⟩
set_option maxRecDepth 100000 in
theorem rq_R05_Small_7_2 (v0 : List (List PV)) (v1 : Int) : runK br Tryz.prog (callK br Tryz.prog X155 M_R05_Small L_R05_Small (lsT []) 40) M_R05_Small (lsT [] 7 0) 40 0 (L_R05_Small 7) (bodyOf Tryz.prog 7 2) (sp_R05_Small_7_2.s.ts sp_R05_Small_7_2.n [.l v0, .i v1]) (sp_R05_Small_7_2.s.h [.l v0, .i v1]) (idc Tryz.prog 0 (L_R05_Small 7) 2) =
    (rd_R05_Small_7_2 [.l v0, .i v1]).go br (fun us' => some (.normal, sp_R05_Small_7_2.s.ts sp_R05_Small_7_2.n us', sp_R05_Small_7_2.s.h us')) sp_R05_Small_7_2.fin := by
  rw [← callF_eq, ← runF_eq]; kernel_rfl
theorem lo_R05_Small_7_2 {R : Type} : LoopTells Tryz.prog X155 M_R05_Small L_R05_Small 0 (L_R05_Small 7) (bodyOf Tryz.prog 7 2) (gL (R := R) sp_R05_Small_7_2 rd_R05_Small_7_2 br) :=
  loopTold (callK_ev (loopsOK_list rids noneIn) 40) (lsokIn (loopsOK_list rids noneIn) 7 0 2) (by kernel_rfl) sp_R05_Small_7_2 rd_R05_Small_7_2 rfl (by kernel_rfl) (by
    intro us v h; unfold rd_R05_Small_7_2 at h; split at h
    · rename_i v0 v1; exact rq_R05_Small_7_2 v0 v1
    · cases h)
noncomputable abbrev ll_R05_Small_7_2 {R : Type} : List (Nat × Nat × Nat × Smy R) := (7, 0, 2, gL sp_R05_Small_7_2 rd_R05_Small_7_2 br) :: []
theorem lk_R05_Small_7_2 {R : Type} : ∀ e ∈ ll_R05_Small_7_2 (R := R), LoopTells Tryz.prog X155 M_R05_Small L_R05_Small e.2.1 (L_R05_Small e.1) (bodyOf Tryz.prog e.1 e.2.2.1) e.2.2.2 := List.forall_mem_cons.2 ⟨lo_R05_Small_7_2, noneIn⟩
def S_R05_Small : FSp := ⟨[.one (.l 54)], [], [], [([.one (.b)], [])]⟩
noncomputable def m_R05_Small : List U → Rt
  | [.l v0] =>
    (let r0 : Rs := (lres rd_R05_Small_7_2 [U.l v0, U.i (0 : Int)])
    (.test (ok r0 0)
    (.stop 0 [.b (uB (out r0 0) 0)])
    (.test (ok r0 1)
    (.stop 0 [.b (decide (ln (uL (out r0 1) 0) ≤ (60 : Int)))])
    .fail)))
  | _ => .fail
set_option maxRecDepth 100000 in
theorem q_R05_Small (v0 : List (List PV)) : callK br Tryz.prog X155 M_R05_Small L_R05_Small (lsT ll_R05_Small_7_2) 60 7 (encs [.l v0] 0 S_R05_Small.ap) (encH [.l v0] (ws S_R05_Small.ap) S_R05_Small.ah) (fun y => fixR Tryz.prog S_R05_Small.plan S_R05_Small.ah.length y) =
    (m_R05_Small [.l v0]).go br (fun _ => none) S_R05_Small.fin := by
  rw [← callF_eq]; kernel_rfl
theorem e_R05_Small : EOK Tryz.prog 7 (gF S_R05_Small m_R05_Small) :=
  eokTold mixed named x155 (loopsOK_list rids lk_R05_Small_7_2) 60 S_R05_Small m_R05_Small (by
    intro us v h; unfold m_R05_Small at h; split at h
    · rename_i v0; exact q_R05_Small v0
    · cases h) false
noncomputable abbrev X156 : Ext := extT [(7, (gF S_R05_Small m_R05_Small))] X155
theorem x156 : XOK Tryz.prog X156 := xok1 x155 e_R05_Small

def L_R10_Low : FuncId → Nat → Option (List Nat) := liveT [(48, 2, [0, 3]), (48, 1000002, [0]), (48, 2000002, [2])]
def M_R10_Low : FuncId → Bool := fun _ => false
noncomputable def rd_R10_Low_48_2 : List U → Rt
  | [.l v0, .i v1] =>
    (.test (decide (v1 < ln v0))
    (.test (inR v1 (ln v0))
    (.test (decide (cI (el v0 v1) 1 > (1000 : Int)))
    (.stop 0 [.b false])
    (.test (inR v1 (ln v0))
    (.test (decide (cI (el v0 v1) 1 < (-1000 : Int)))
    (.stop 0 [.b false])
    (.next [.l v0, .i (w64 (v1 + (1 : Int)))]))
    .fail))
    .fail)
    (.stop 1 [.l v0]))
  | _ => .fail
def sp_R10_Low_48_2 : LSp := ⟨26, ⟨[(0, .one (.l 54)), (3, .one (.i .i64))], []⟩, [(.ret, ⟨[(2, .one (.b))], []⟩), (.exit 0, ⟨[(0, .one (.l 54))], []⟩)]⟩
set_option maxRecDepth 100000 in
theorem rq_R10_Low_48_2 (v0 : List (List PV)) (v1 : Int) : runK br Tryz.prog (callK br Tryz.prog X156 M_R10_Low L_R10_Low (lsT []) 40) M_R10_Low (lsT [] 48 0) 40 0 (L_R10_Low 48) (bodyOf Tryz.prog 48 2) (sp_R10_Low_48_2.s.ts sp_R10_Low_48_2.n [.l v0, .i v1]) (sp_R10_Low_48_2.s.h [.l v0, .i v1]) (idc Tryz.prog 0 (L_R10_Low 48) 2) =
    (rd_R10_Low_48_2 [.l v0, .i v1]).go br (fun us' => some (.normal, sp_R10_Low_48_2.s.ts sp_R10_Low_48_2.n us', sp_R10_Low_48_2.s.h us')) sp_R10_Low_48_2.fin := by
  rw [← callF_eq, ← runF_eq]; kernel_rfl
theorem lo_R10_Low_48_2 {R : Type} : LoopTells Tryz.prog X156 M_R10_Low L_R10_Low 0 (L_R10_Low 48) (bodyOf Tryz.prog 48 2) (gL (R := R) sp_R10_Low_48_2 rd_R10_Low_48_2 br) :=
  loopTold (callK_ev (loopsOK_list rids noneIn) 40) (lsokIn (loopsOK_list rids noneIn) 48 0 2) (by kernel_rfl) sp_R10_Low_48_2 rd_R10_Low_48_2 rfl (by kernel_rfl) (by
    intro us v h; unfold rd_R10_Low_48_2 at h; split at h
    · rename_i v0 v1; exact rq_R10_Low_48_2 v0 v1
    · cases h)
noncomputable abbrev ll_R10_Low_48_2 {R : Type} : List (Nat × Nat × Nat × Smy R) := (48, 0, 2, gL sp_R10_Low_48_2 rd_R10_Low_48_2 br) :: []
theorem lk_R10_Low_48_2 {R : Type} : ∀ e ∈ ll_R10_Low_48_2 (R := R), LoopTells Tryz.prog X156 M_R10_Low L_R10_Low e.2.1 (L_R10_Low e.1) (bodyOf Tryz.prog e.1 e.2.2.1) e.2.2.2 := List.forall_mem_cons.2 ⟨lo_R10_Low_48_2, noneIn⟩
def S_R10_Low : FSp := ⟨[.one (.l 54)], [], [], [([.one (.b)], [])]⟩
noncomputable def m_R10_Low : List U → Rt
  | [.l v0] =>
    (let r0 : Rs := (lres rd_R10_Low_48_2 [U.l v0, U.i (0 : Int)])
    (.test (ok r0 0)
    (.stop 0 [.b (uB (out r0 0) 0)])
    (.test (ok r0 1)
    (let r1 : Rs := (Rt.res (m_R05_Small [U.l (uL (out r0 1) 0)]))
    (.test (ok r1 0)
    (.stop 0 [.b (uB (out r1 0) 0)])
    .fail))
    .fail)))
  | _ => .fail
set_option maxRecDepth 100000 in
theorem q_R10_Low (v0 : List (List PV)) : callK br Tryz.prog X156 M_R10_Low L_R10_Low (lsT ll_R10_Low_48_2) 60 48 (encs [.l v0] 0 S_R10_Low.ap) (encH [.l v0] (ws S_R10_Low.ap) S_R10_Low.ah) (fun y => fixR Tryz.prog S_R10_Low.plan S_R10_Low.ah.length y) =
    (m_R10_Low [.l v0]).go br (fun _ => none) S_R10_Low.fin := by
  rw [← callF_eq]; kernel_rfl
theorem e_R10_Low : EOK Tryz.prog 48 (gF S_R10_Low m_R10_Low) :=
  eokTold mixed named x156 (loopsOK_list rids lk_R10_Low_48_2) 60 S_R10_Low m_R10_Low (by
    intro us v h; unfold m_R10_Low at h; split at h
    · rename_i v0; exact q_R10_Low v0
    · cases h) false
noncomputable abbrev X157 : Ext := extT [(48, (gF S_R10_Low m_R10_Low))] X156
theorem x157 : XOK Tryz.prog X157 := xok1 x156 e_R10_Low

def L_R10_At : FuncId → Nat → Option (List Nat) := liveT []
def M_R10_At : FuncId → Bool := fun _ => false
def S_R10_At : FSp := ⟨[.one (.l 56), .one (.i .i64)], [], [], [([.agg [.i .i64, .i .i64, .s]], [])]⟩
noncomputable def m_R10_At : List U → Rt
  | [.l v0, .i v1] =>
    (.test (decide (v1 < (0 : Int)))
    (.stop 0 [.i ((0 : Int)), .i ((0 : Int)), .s ({ data := #[] })])
    (.test (decide (v1 ≥ ln v0))
    (.stop 0 [.i ((0 : Int)), .i ((0 : Int)), .s ({ data := #[] })])
    (.test (inR v1 (ln v0))
    (.stop 0 [.i (cI (el v0 v1) 0), .i (cI (el v0 v1) 1), .s (cS (el v0 v1) 2)])
    .fail)))
  | _ => .fail
set_option maxRecDepth 100000 in
theorem q_R10_At (v0 : List (List PV)) (v1 : Int) : callK br Tryz.prog X157 M_R10_At L_R10_At (lsT []) 60 65 (encs [.l v0, .i v1] 0 S_R10_At.ap) (encH [.l v0, .i v1] (ws S_R10_At.ap) S_R10_At.ah) (fun y => fixR Tryz.prog S_R10_At.plan S_R10_At.ah.length y) =
    (m_R10_At [.l v0, .i v1]).go br (fun _ => none) S_R10_At.fin := by
  rw [← callF_eq]; kernel_rfl
theorem e_R10_At : EOK Tryz.prog 65 (gF S_R10_At m_R10_At) :=
  eokTold mixed named x157 (loopsOK_list rids noneIn) 60 S_R10_At m_R10_At (by
    intro us v h; unfold m_R10_At at h; split at h
    · rename_i v0 v1; exact q_R10_At v0 v1
    · cases h) false
noncomputable abbrev X158 : Ext := extT [(65, (gF S_R10_At m_R10_At))] X157
theorem x158 : XOK Tryz.prog X158 := xok1 x157 e_R10_At

def L_R05_Add : FuncId → Nat → Option (List Nat) := liveT [(41, 4, [0, 1, 2, 7, 8, 9]), (41, 1000004, [1, 2, 7, 8]), (41, 2000004, [6])]
def M_R05_Add : FuncId → Bool := fun _ => false
noncomputable def rd_R05_Add_41_4 : List U → Rt
  | [.l v0, .l v1, .i v2, .b v3, .i v4, .l v5] =>
    (.test (decide (v4 < ln v0))
    (.test (inR v4 (ln v0))
    (let r0 : Rs := (Rt.res (m_R02_Compare [U.l (cL (el v0 v4) 0), U.l v1]))
    (.test (ok r0 0)
    (.test (decide (uI (out r0 0) 0 ≥ (0 : Int)))
    (.test (!v3)
    (.test (uI (out r0 0) 0 == (0 : Int))
    (.test (inR v4 (ln v0))
    (.test (w64 (v2 + cI (el v0 v4) 1) != (0 : Int))
    (.test (decide ((List.length v5 + 1) * 32 ≤ 140737488355328))
    (.test (uI (out r0 0) 0 != (0 : Int))
    (.test (inR v4 (ln v0))
    (.test (decide ((List.length (v5 ++ [[PV.lst 56 v1, pI (w64 (v2 + cI (el v0 v4) 1))]]) + 1) * 32 ≤ 140737488355328))
    (.next [.l v0, .l v1, .i v2, .b true, .i (w64 (v4 + (1 : Int))), .l (v5 ++ [[PV.lst 56 v1, pI (w64 (v2 + cI (el v0 v4) 1))]] ++ [[PV.lst 56 (cL (el v0 v4) 0), pI (cI (el v0 v4) 1)]])])
    .fail)
    .fail)
    (.next [.l v0, .l v1, .i v2, .b true, .i (w64 (v4 + (1 : Int))), .l (v5 ++ [[PV.lst 56 v1, pI (w64 (v2 + cI (el v0 v4) 1))]])]))
    .fail)
    (.test (uI (out r0 0) 0 != (0 : Int))
    (.test (inR v4 (ln v0))
    (.test (decide ((List.length v5 + 1) * 32 ≤ 140737488355328))
    (.next [.l v0, .l v1, .i v2, .b true, .i (w64 (v4 + (1 : Int))), .l (v5 ++ [[PV.lst 56 (cL (el v0 v4) 0), pI (cI (el v0 v4) 1)]])])
    .fail)
    .fail)
    (.next [.l v0, .l v1, .i v2, .b true, .i (w64 (v4 + (1 : Int))), .l v5])))
    .fail)
    (.test (v2 != (0 : Int))
    (.test (decide ((List.length v5 + 1) * 32 ≤ 140737488355328))
    (.test (uI (out r0 0) 0 != (0 : Int))
    (.test (inR v4 (ln v0))
    (.test (decide ((List.length (v5 ++ [[PV.lst 56 v1, pI v2]]) + 1) * 32 ≤ 140737488355328))
    (.next [.l v0, .l v1, .i v2, .b true, .i (w64 (v4 + (1 : Int))), .l (v5 ++ [[PV.lst 56 v1, pI v2]] ++ [[PV.lst 56 (cL (el v0 v4) 0), pI (cI (el v0 v4) 1)]])])
    .fail)
    .fail)
    (.next [.l v0, .l v1, .i v2, .b true, .i (w64 (v4 + (1 : Int))), .l (v5 ++ [[PV.lst 56 v1, pI v2]])]))
    .fail)
    (.test (uI (out r0 0) 0 != (0 : Int))
    (.test (inR v4 (ln v0))
    (.test (decide ((List.length v5 + 1) * 32 ≤ 140737488355328))
    (.next [.l v0, .l v1, .i v2, .b true, .i (w64 (v4 + (1 : Int))), .l (v5 ++ [[PV.lst 56 (cL (el v0 v4) 0), pI (cI (el v0 v4) 1)]])])
    .fail)
    .fail)
    (.next [.l v0, .l v1, .i v2, .b true, .i (w64 (v4 + (1 : Int))), .l v5]))))
    (.test (uI (out r0 0) 0 != (0 : Int))
    (.test (inR v4 (ln v0))
    (.test (decide ((List.length v5 + 1) * 32 ≤ 140737488355328))
    (.next [.l v0, .l v1, .i v2, .b v3, .i (w64 (v4 + (1 : Int))), .l (v5 ++ [[PV.lst 56 (cL (el v0 v4) 0), pI (cI (el v0 v4) 1)]])])
    .fail)
    .fail)
    (.next [.l v0, .l v1, .i v2, .b v3, .i (w64 (v4 + (1 : Int))), .l v5])))
    (.test (uI (out r0 0) 0 != (0 : Int))
    (.test (inR v4 (ln v0))
    (.test (decide ((List.length v5 + 1) * 32 ≤ 140737488355328))
    (.next [.l v0, .l v1, .i v2, .b v3, .i (w64 (v4 + (1 : Int))), .l (v5 ++ [[PV.lst 56 (cL (el v0 v4) 0), pI (cI (el v0 v4) 1)]])])
    .fail)
    .fail)
    (.next [.l v0, .l v1, .i v2, .b v3, .i (w64 (v4 + (1 : Int))), .l v5])))
    .fail))
    .fail)
    (.stop 0 [.l v1, .i v2, .b v3, .l v5]))
  | _ => .fail
def sp_R05_Add_41_4 : LSp := ⟨72, ⟨[(0, .one (.l 54)), (1, .one (.l 56)), (2, .one (.i .i64)), (7, .one (.all 0)), (8, .one (.b)), (9, .one (.i .i64))], [.arr 54 true]⟩, [(.exit 0, ⟨[(1, .one (.l 56)), (2, .one (.i .i64)), (7, .one (.all 0)), (8, .one (.b))], [.arr 54 true]⟩)]⟩
set_option maxRecDepth 100000 in
theorem rq_R05_Add_41_4 (v0 : List (List PV)) (v1 : List (List PV)) (v2 : Int) (v3 : Bool) (v4 : Int) (v5 : List (List PV)) : runK br Tryz.prog (callK br Tryz.prog X158 M_R05_Add L_R05_Add (lsT []) 40) M_R05_Add (lsT [] 41 0) 40 0 (L_R05_Add 41) (bodyOf Tryz.prog 41 4) (sp_R05_Add_41_4.s.ts sp_R05_Add_41_4.n [.l v0, .l v1, .i v2, .b v3, .i v4, .l v5]) (sp_R05_Add_41_4.s.h [.l v0, .l v1, .i v2, .b v3, .i v4, .l v5]) (idc Tryz.prog 0 (L_R05_Add 41) 4) =
    (rd_R05_Add_41_4 [.l v0, .l v1, .i v2, .b v3, .i v4, .l v5]).go br (fun us' => some (.normal, sp_R05_Add_41_4.s.ts sp_R05_Add_41_4.n us', sp_R05_Add_41_4.s.h us')) sp_R05_Add_41_4.fin := by
  rw [← callF_eq, ← runF_eq]; kernel_rfl
theorem lo_R05_Add_41_4 {R : Type} : LoopTells Tryz.prog X158 M_R05_Add L_R05_Add 0 (L_R05_Add 41) (bodyOf Tryz.prog 41 4) (gL (R := R) sp_R05_Add_41_4 rd_R05_Add_41_4 br) :=
  loopTold (callK_ev (loopsOK_list rids noneIn) 40) (lsokIn (loopsOK_list rids noneIn) 41 0 4) (by kernel_rfl) sp_R05_Add_41_4 rd_R05_Add_41_4 rfl (by kernel_rfl) (by
    intro us v h; unfold rd_R05_Add_41_4 at h; split at h
    · rename_i v0 v1 v2 v3 v4 v5; exact rq_R05_Add_41_4 v0 v1 v2 v3 v4 v5
    · cases h)
noncomputable abbrev ll_R05_Add_41_4 {R : Type} : List (Nat × Nat × Nat × Smy R) := (41, 0, 4, gL sp_R05_Add_41_4 rd_R05_Add_41_4 br) :: []
theorem lk_R05_Add_41_4 {R : Type} : ∀ e ∈ ll_R05_Add_41_4 (R := R), LoopTells Tryz.prog X158 M_R05_Add L_R05_Add e.2.1 (L_R05_Add e.1) (bodyOf Tryz.prog e.1 e.2.2.1) e.2.2.2 := List.forall_mem_cons.2 ⟨lo_R05_Add_41_4, noneIn⟩
def S_R05_Add : FSp := ⟨[.one (.l 54), .one (.l 56), .one (.i .i64)], [], [], [([.one (.all 0)], [.arr 54 true])]⟩
noncomputable def m_R05_Add : List U → Rt
  | [.l v0, .l v1, .i v2] =>
    (let r0 : Rs := (lres rd_R05_Add_41_4 [U.l v0, U.l v1, U.i v2, U.b false, U.i (0 : Int), U.l []])
    (.test (ok r0 0)
    (.test (!uB (out r0 0) 2)
    (.test (uI (out r0 0) 1 != (0 : Int))
    (.test (decide ((List.length (uL (out r0 0) 3) + 1) * 32 ≤ 140737488355328))
    (.stop 0 [.l (uL (out r0 0) 3 ++ [[PV.lst 56 (uL (out r0 0) 0), pI (uI (out r0 0) 1)]])])
    .fail)
    (.stop 0 [.l (uL (out r0 0) 3)]))
    (.stop 0 [.l (uL (out r0 0) 3)]))
    .fail))
  | _ => .fail
set_option maxRecDepth 100000 in
theorem q_R05_Add (v0 : List (List PV)) (v1 : List (List PV)) (v2 : Int) : callK br Tryz.prog X158 M_R05_Add L_R05_Add (lsT ll_R05_Add_41_4) 60 41 (encs [.l v0, .l v1, .i v2] 0 S_R05_Add.ap) (encH [.l v0, .l v1, .i v2] (ws S_R05_Add.ap) S_R05_Add.ah) (fun y => fixR Tryz.prog S_R05_Add.plan S_R05_Add.ah.length y) =
    (m_R05_Add [.l v0, .l v1, .i v2]).go br (fun _ => none) S_R05_Add.fin := by
  rw [← callF_eq]; kernel_rfl
theorem e_R05_Add : EOK Tryz.prog 41 (gF S_R05_Add m_R05_Add) :=
  eokTold mixed named x158 (loopsOK_list rids lk_R05_Add_41_4) 60 S_R05_Add m_R05_Add (by
    intro us v h; unfold m_R05_Add at h; split at h
    · rename_i v0 v1 v2; exact q_R05_Add v0 v1 v2
    · cases h) false
noncomputable abbrev X159 : Ext := extT [(41, (gF S_R05_Add m_R05_Add))] X158
theorem x159 : XOK Tryz.prog X159 := xok1 x158 e_R05_Add

def L_R05_Both : FuncId → Nat → Option (List Nat) := liveT [(24, 2, [110000000, 1, 5]), (24, 1000002, [0]), (24, 2000002, [4])]
def M_R05_Both : FuncId → Bool := fun _ => false
noncomputable def rd_R05_Both_24_2 : List U → Rt
  | [.l v0, .l v1, .i v2] =>
    (.test (decide (v2 < ln v1))
    (.test (inR v2 (ln v1))
    (.test (inR v2 (ln v1))
    (let r0 : Rs := (Rt.res (m_R05_Add [U.l v0, U.l (cL (el v1 v2) 0), U.i (cI (el v1 v2) 1)]))
    (.test (ok r0 0)
    (.next [.l (uL (out r0 0) 0), .l v1, .i (w64 (v2 + (1 : Int)))])
    .fail))
    .fail)
    .fail)
    (.stop 0 [.l v0]))
  | _ => .fail
def sp_R05_Both_24_2 : LSp := ⟨25, ⟨[(0, .one (.l 54)), (1, .one (.l 54)), (5, .one (.i .i64))], []⟩, [(.exit 0, ⟨[(0, .one (.l 54))], []⟩)]⟩
set_option maxRecDepth 100000 in
theorem rq_R05_Both_24_2 (v0 : List (List PV)) (v1 : List (List PV)) (v2 : Int) : runK br Tryz.prog (callK br Tryz.prog X159 M_R05_Both L_R05_Both (lsT []) 40) M_R05_Both (lsT [] 24 0) 40 0 (L_R05_Both 24) (bodyOf Tryz.prog 24 2) (sp_R05_Both_24_2.s.ts sp_R05_Both_24_2.n [.l v0, .l v1, .i v2]) (sp_R05_Both_24_2.s.h [.l v0, .l v1, .i v2]) (idc Tryz.prog 0 (L_R05_Both 24) 2) =
    (rd_R05_Both_24_2 [.l v0, .l v1, .i v2]).go br (fun us' => some (.normal, sp_R05_Both_24_2.s.ts sp_R05_Both_24_2.n us', sp_R05_Both_24_2.s.h us')) sp_R05_Both_24_2.fin := by
  rw [← callF_eq, ← runF_eq]; kernel_rfl
theorem lo_R05_Both_24_2 {R : Type} : LoopTells Tryz.prog X159 M_R05_Both L_R05_Both 0 (L_R05_Both 24) (bodyOf Tryz.prog 24 2) (gL (R := R) sp_R05_Both_24_2 rd_R05_Both_24_2 br) :=
  loopTold (callK_ev (loopsOK_list rids noneIn) 40) (lsokIn (loopsOK_list rids noneIn) 24 0 2) (by kernel_rfl) sp_R05_Both_24_2 rd_R05_Both_24_2 rfl (by kernel_rfl) (by
    intro us v h; unfold rd_R05_Both_24_2 at h; split at h
    · rename_i v0 v1 v2; exact rq_R05_Both_24_2 v0 v1 v2
    · cases h)
noncomputable abbrev ll_R05_Both_24_2 {R : Type} : List (Nat × Nat × Nat × Smy R) := (24, 0, 2, gL sp_R05_Both_24_2 rd_R05_Both_24_2 br) :: []
theorem lk_R05_Both_24_2 {R : Type} : ∀ e ∈ ll_R05_Both_24_2 (R := R), LoopTells Tryz.prog X159 M_R05_Both L_R05_Both e.2.1 (L_R05_Both e.1) (bodyOf Tryz.prog e.1 e.2.2.1) e.2.2.2 := List.forall_mem_cons.2 ⟨lo_R05_Both_24_2, noneIn⟩
def S_R05_Both : FSp := ⟨[.one (.l 54), .one (.l 54)], [], [], [([.one (.l 54)], [])]⟩
noncomputable def m_R05_Both : List U → Rt
  | [.l v0, .l v1] =>
    (let r0 : Rs := (lres rd_R05_Both_24_2 [U.l v0, U.l v1, U.i (0 : Int)])
    (.test (ok r0 0)
    (.stop 0 [.l (uL (out r0 0) 0)])
    .fail))
  | _ => .fail
set_option maxRecDepth 100000 in
theorem q_R05_Both (v0 : List (List PV)) (v1 : List (List PV)) : callK br Tryz.prog X159 M_R05_Both L_R05_Both (lsT ll_R05_Both_24_2) 60 24 (encs [.l v0, .l v1] 0 S_R05_Both.ap) (encH [.l v0, .l v1] (ws S_R05_Both.ap) S_R05_Both.ah) (fun y => fixR Tryz.prog S_R05_Both.plan S_R05_Both.ah.length y) =
    (m_R05_Both [.l v0, .l v1]).go br (fun _ => none) S_R05_Both.fin := by
  rw [← callF_eq]; kernel_rfl
theorem e_R05_Both : EOK Tryz.prog 24 (gF S_R05_Both m_R05_Both) :=
  eokTold mixed named x159 (loopsOK_list rids lk_R05_Both_24_2) 60 S_R05_Both m_R05_Both (by
    intro us v h; unfold m_R05_Both at h; split at h
    · rename_i v0 v1; exact q_R05_Both v0 v1
    · cases h) false
noncomputable abbrev X160 : Ext := extT [(24, (gF S_R05_Both m_R05_Both))] X159
theorem x160 : XOK Tryz.prog X160 := xok1 x159 e_R05_Both

def L_L13_small : FuncId → Nat → Option (List Nat) := liveT []
def M_L13_small : FuncId → Bool := fun _ => false
def S_L13_small : FSp := ⟨[.agg [.s, .s, .s, .i .i64, .i .i64, .l 58, .l 3, .b, .l 165], .agg [.l 54, .l 54, .l 54, .l 54]], [], [], [([.one (.b)], [])]⟩
noncomputable def m_L13_small : List U → Rt
  | [.s v0, .s v1, .s v2, .i v3, .i v4, .l v5, .l v6, .b v7, .l v8, .l v9, .l v10, .l v11, .l v12] =>
    (let r0 : Rs := (Rt.res (m_R10_Low [U.l v9]))
    (.test (ok r0 0)
    (.test (uB (out r0 0) 0)
    (let r1 : Rs := (Rt.res (m_R10_Low [U.l v10]))
    (.test (ok r1 0)
    (.test (uB (out r1 0) 0)
    (let r2 : Rs := (Rt.res (m_R10_Low [U.l v11]))
    (.test (ok r2 0)
    (.test (uB (out r2 0) 0)
    (let r3 : Rs := (Rt.res (m_R10_Low [U.l v12]))
    (.test (ok r3 0)
    (.test (uB (out r3 0) 0)
    (.test (decide (ln v5 ≤ (120 : Int)))
    (.stop 0 [.b (decide (ln v6 ≤ (60 : Int)))])
    (.stop 0 [.b false]))
    (.stop 0 [.b false]))
    .fail))
    (.stop 0 [.b false]))
    .fail))
    (.stop 0 [.b false]))
    .fail))
    (.stop 0 [.b false]))
    .fail))
  | _ => .fail
set_option maxRecDepth 100000 in
theorem q_L13_small (v0 : ByteArray) (v1 : ByteArray) (v2 : ByteArray) (v3 : Int) (v4 : Int) (v5 : List (List PV)) (v6 : List (List PV)) (v7 : Bool) (v8 : List (List PV)) (v9 : List (List PV)) (v10 : List (List PV)) (v11 : List (List PV)) (v12 : List (List PV)) : callK br Tryz.prog X160 M_L13_small L_L13_small (lsT []) 60 16 (encs [.s v0, .s v1, .s v2, .i v3, .i v4, .l v5, .l v6, .b v7, .l v8, .l v9, .l v10, .l v11, .l v12] 0 S_L13_small.ap) (encH [.s v0, .s v1, .s v2, .i v3, .i v4, .l v5, .l v6, .b v7, .l v8, .l v9, .l v10, .l v11, .l v12] (ws S_L13_small.ap) S_L13_small.ah) (fun y => fixR Tryz.prog S_L13_small.plan S_L13_small.ah.length y) =
    (m_L13_small [.s v0, .s v1, .s v2, .i v3, .i v4, .l v5, .l v6, .b v7, .l v8, .l v9, .l v10, .l v11, .l v12]).go br (fun _ => none) S_L13_small.fin := by
  rw [← callF_eq]; kernel_rfl
theorem e_L13_small : EOK Tryz.prog 16 (gF S_L13_small m_L13_small) :=
  eokTold mixed named x160 (loopsOK_list rids noneIn) 60 S_L13_small m_L13_small (by
    intro us v h; unfold m_L13_small at h; split at h
    · rename_i v0 v1 v2 v3 v4 v5 v6 v7 v8 v9 v10 v11 v12; exact q_L13_small v0 v1 v2 v3 v4 v5 v6 v7 v8 v9 v10 v11 v12
    · cases h) false
noncomputable abbrev X161 : Ext := extT [(16, (gF S_L13_small m_L13_small))] X160
theorem x161 : XOK Tryz.prog X161 := xok1 x160 e_L13_small

def L_L13_may : FuncId → Nat → Option (List Nat) := liveT []
def M_L13_may : FuncId → Bool := fun _ => false
def S_L13_may : FSp := ⟨[.agg [.l 54, .l 54, .l 54, .l 54]], [], [], [([.one (.b)], [])]⟩
noncomputable def m_L13_may : List U → Rt
  | [.l v0, .l v1, .l v2, .l v3] =>
    (let r0 : Rs := (Rt.res (m_R05_May [U.l v0]))
    (.test (ok r0 0)
    (.test (uB (out r0 0) 0)
    (let r1 : Rs := (Rt.res (m_R05_May [U.l v1]))
    (.test (ok r1 0)
    (.test (uB (out r1 0) 0)
    (let r2 : Rs := (Rt.res (m_R05_May [U.l v2]))
    (.test (ok r2 0)
    (.test (uB (out r2 0) 0)
    (let r3 : Rs := (Rt.res (m_R05_May [U.l v3]))
    (.test (ok r3 0)
    (.stop 0 [.b (uB (out r3 0) 0)])
    .fail))
    (.stop 0 [.b false]))
    .fail))
    (.stop 0 [.b false]))
    .fail))
    (.stop 0 [.b false]))
    .fail))
  | _ => .fail
set_option maxRecDepth 100000 in
theorem q_L13_may (v0 : List (List PV)) (v1 : List (List PV)) (v2 : List (List PV)) (v3 : List (List PV)) : callK br Tryz.prog X161 M_L13_may L_L13_may (lsT []) 60 22 (encs [.l v0, .l v1, .l v2, .l v3] 0 S_L13_may.ap) (encH [.l v0, .l v1, .l v2, .l v3] (ws S_L13_may.ap) S_L13_may.ah) (fun y => fixR Tryz.prog S_L13_may.plan S_L13_may.ah.length y) =
    (m_L13_may [.l v0, .l v1, .l v2, .l v3]).go br (fun _ => none) S_L13_may.fin := by
  rw [← callF_eq]; kernel_rfl
theorem e_L13_may : EOK Tryz.prog 22 (gF S_L13_may m_L13_may) :=
  eokTold mixed named x161 (loopsOK_list rids noneIn) 60 S_L13_may m_L13_may (by
    intro us v h; unfold m_L13_may at h; split at h
    · rename_i v0 v1 v2 v3; exact q_L13_may v0 v1 v2 v3
    · cases h) false
noncomputable abbrev X162 : Ext := extT [(22, (gF S_L13_may m_L13_may))] X161
theorem x162 : XOK Tryz.prog X162 := xok1 x161 e_L13_may

def L_R10_meets : FuncId → Nat → Option (List Nat) := liveT []
def M_R10_meets : FuncId → Bool := fun _ => false
def S_R10_meets : FSp := ⟨[.agg [.s, .s, .s, .i .i64, .i .i64, .l 58, .l 3, .b, .l 165], .one (.l 56), .one (.l 56)], [], [], [([.one (.b)], [])]⟩
noncomputable def m_R10_meets : List U → Rt
  | [.s v0, .s v1, .s v2, .i v3, .i v4, .l v5, .l v6, .b v7, .l v8, .l v9, .l v10] =>
    (let r0 : Rs := (Rt.res (m_R10_At [U.l v9, U.i v3]))
    (.test (ok r0 0)
    (let r1 : Rs := (Rt.res (m_R10_At [U.l v10, U.i v4]))
    (.test (ok r1 0)
    (.test (uI (out r0 0) 0 == uI (out r1 0) 0 && (uI (out r0 0) 1 == uI (out r1 0) 1 && (ByteArray.toList (uS (out r0 0) 2) == ByteArray.toList (uS (out r1 0) 2) && true)))
    (.stop 0 [.b (uI (out r0 0) 0 != (0 : Int))])
    (.stop 0 [.b false]))
    .fail))
    .fail))
  | _ => .fail
set_option maxRecDepth 100000 in
theorem q_R10_meets (v0 : ByteArray) (v1 : ByteArray) (v2 : ByteArray) (v3 : Int) (v4 : Int) (v5 : List (List PV)) (v6 : List (List PV)) (v7 : Bool) (v8 : List (List PV)) (v9 : List (List PV)) (v10 : List (List PV)) : callK br Tryz.prog X162 M_R10_meets L_R10_meets (lsT []) 60 38 (encs [.s v0, .s v1, .s v2, .i v3, .i v4, .l v5, .l v6, .b v7, .l v8, .l v9, .l v10] 0 S_R10_meets.ap) (encH [.s v0, .s v1, .s v2, .i v3, .i v4, .l v5, .l v6, .b v7, .l v8, .l v9, .l v10] (ws S_R10_meets.ap) S_R10_meets.ah) (fun y => fixR Tryz.prog S_R10_meets.plan S_R10_meets.ah.length y) =
    (m_R10_meets [.s v0, .s v1, .s v2, .i v3, .i v4, .l v5, .l v6, .b v7, .l v8, .l v9, .l v10]).go br (fun _ => none) S_R10_meets.fin := by
  rw [← callF_eq]; kernel_rfl
theorem e_R10_meets : EOK Tryz.prog 38 (gF S_R10_meets m_R10_meets) :=
  eokTold mixed named x162 (loopsOK_list rids noneIn) 60 S_R10_meets m_R10_meets (by
    intro us v h; unfold m_R10_meets at h; split at h
    · rename_i v0 v1 v2 v3 v4 v5 v6 v7 v8 v9 v10; exact q_R10_meets v0 v1 v2 v3 v4 v5 v6 v7 v8 v9 v10
    · cases h) false
noncomputable abbrev X163 : Ext := extT [(38, (gF S_R10_meets m_R10_meets))] X162
theorem x163 : XOK Tryz.prog X163 := xok1 x162 e_R10_meets

def L_R04_Join : FuncId → Nat → Option (List Nat) := liveT []
def M_R04_Join : FuncId → Bool := fun _ => false
def S_R04_Join : FSp := ⟨[.one (.l 56), .one (.l 56)], [], [], [([.one (.all 0)], [.arr 56 true])]⟩
noncomputable def m_R04_Join : List U → Rt
  | [.l v0, .l v1] =>
    (.test (decide ((0 + List.length v0) * 32 ≤ 140737488355328))
    (.test (decide ((List.length v0 + List.length v1) * 32 ≤ 140737488355328))
    (.stop 0 [.l (v0 ++ v1)])
    .fail)
    .fail)
  | _ => .fail
set_option maxRecDepth 100000 in
theorem q_R04_Join (v0 : List (List PV)) (v1 : List (List PV)) : callK br Tryz.prog X163 M_R04_Join L_R04_Join (lsT []) 60 39 (encs [.l v0, .l v1] 0 S_R04_Join.ap) (encH [.l v0, .l v1] (ws S_R04_Join.ap) S_R04_Join.ah) (fun y => fixR Tryz.prog S_R04_Join.plan S_R04_Join.ah.length y) =
    (m_R04_Join [.l v0, .l v1]).go br (fun _ => none) S_R04_Join.fin := by
  rw [← callF_eq]; kernel_rfl
theorem e_R04_Join : EOK Tryz.prog 39 (gI S_R04_Join m_R04_Join) :=
  eokTold mixed named x163 (loopsOK_list rids noneIn) 60 S_R04_Join m_R04_Join (by
    intro us v h; unfold m_R04_Join at h; split at h
    · rename_i v0 v1; exact q_R04_Join v0 v1
    · cases h) true
noncomputable abbrev X164 : Ext := extT [(39, (gI S_R04_Join m_R04_Join))] X163
theorem x164 : XOK Tryz.prog X164 := xok1 x163 e_R04_Join

def L_R10_Product : FuncId → Nat → Option (List Nat) := liveT [(10, 11, [1, 2, 3, 8, 9, 10, 11]), (10, 1000011, [1, 2, 3, 8, 9, 10]), (10, 2000011, [6, 7]), (10, 8, [1, 2, 3, 8, 9, 10]), (10, 1000008, [8]), (10, 2000008, [6, 7])]
def M_R10_Product : FuncId → Bool := fun _ => false
noncomputable def rd_R10_Product_10_11 : List U → Rt
  | [.l v0, .l v1, .i v2, .i v3, .i v4, .s v5, .s v6, .s v7, .i v8, .i v9, .l v10, .l v11, .b v12, .l v13, .l v14] =>
    (.test (decide (v4 < ln v1))
    (.test (inR v3 (ln v0))
    (.test (inR v4 (ln v1))
    (let r0 : Rs := (Rt.res (m_R10_meets [U.s v5, U.s v6, U.s v7, U.i v8, U.i v9, U.l v10, U.l v11, U.b v12, U.l v13, U.l (cL (el v0 v3) 0), U.l (cL (el v1 v4) 0)]))
    (.test (ok r0 0)
    (.test (!uB (out r0 0) 0)
    (.next [.l v0, .l v1, .i v2, .i v3, .i (w64 (v4 + (1 : Int))), .s v5, .s v6, .s v7, .i v8, .i v9, .l v10, .l v11, .b v12, .l v13, .l v14])
    (.test (inR v3 (ln v0))
    (.test (inR v4 (ln v1))
    (.test (decide ((0 + List.length (cL (el v0 v3) 0)) * 32 ≤ 140737488355328))
    (.test (decide ((List.length (cL (el v0 v3) 0) + List.length (cL (el v1 v4) 0)) * 32 ≤ 140737488355328))
    (.test (inR v3 (ln v0))
    (.test (inR v4 (ln v1))
    (.test (decide (w64 (v2 + (1 : Int)) > (10000 : Int)))
    (.stop 0 [.i ((100 : Int))])
    (.test (decide (ln (cL (el v0 v3) 0 ++ cL (el v1 v4) 0) > (40 : Int)))
    (.stop 0 [.i ((100 : Int))])
    (let r1 : Rs := (Rt.res (m_R05_Fits [U.i (w64 (cI (el v0 v3) 1 * cI (el v1 v4) 1))]))
    (.test (ok r1 0)
    (.test (!uB (out r1 0) 0)
    (.stop 0 [.i ((100 : Int))])
    (let r2 : Rs := (Rt.res (m_R05_Add [U.l v14, U.l (cL (el v0 v3) 0 ++ cL (el v1 v4) 0), U.i (w64 (cI (el v0 v3) 1 * cI (el v1 v4) 1))]))
    (.test (ok r2 0)
    (.next [.l v0, .l v1, .i (w64 (v2 + (1 : Int))), .i v3, .i (w64 (v4 + (1 : Int))), .s v5, .s v6, .s v7, .i v8, .i v9, .l v10, .l v11, .b v12, .l v13, .l (uL (out r2 0) 0)])
    .fail)))
    .fail))))
    .fail)
    .fail)
    .fail)
    .fail)
    .fail)
    .fail))
    .fail))
    .fail)
    .fail)
    (.stop 1 [.l v0, .l v1, .i v2, .i v3, .s v5, .s v6, .s v7, .i v8, .i v9, .l v10, .l v11, .b v12, .l v13, .l v14]))
  | _ => .fail
def sp_R10_Product_10_11 : LSp := ⟨96, ⟨[(1, .one (.l 54)), (2, .one (.l 54)), (3, .one (.ptr 0 0)), (8, .one (.all 1)), (9, .one (.i .i64)), (10, .one (.i .i64)), (11, .one (.i .i64))], [.box 28 [.one (.s), .one (.s), .one (.s), .one (.i .i64), .one (.i .i64), .one (.l 58), .one (.l 3), .one (.b), .one (.l 165)], .arr 54 true]⟩, [(.ret, ⟨[(6, .one (.nils)), (7, .one (.i .i64))], []⟩), (.exit 2, ⟨[(1, .one (.l 54)), (2, .one (.l 54)), (3, .one (.ptr 0 0)), (8, .one (.all 1)), (9, .one (.i .i64)), (10, .one (.i .i64))], [.box 28 [.one (.s), .one (.s), .one (.s), .one (.i .i64), .one (.i .i64), .one (.l 58), .one (.l 3), .one (.b), .one (.l 165)], .arr 54 true]⟩)]⟩
set_option maxRecDepth 100000 in
theorem rq_R10_Product_10_11 (v0 : List (List PV)) (v1 : List (List PV)) (v2 : Int) (v3 : Int) (v4 : Int) (v5 : ByteArray) (v6 : ByteArray) (v7 : ByteArray) (v8 : Int) (v9 : Int) (v10 : List (List PV)) (v11 : List (List PV)) (v12 : Bool) (v13 : List (List PV)) (v14 : List (List PV)) : runK br Tryz.prog (callK br Tryz.prog X164 M_R10_Product L_R10_Product (lsT []) 40) M_R10_Product (lsT [] 10 0) 40 0 (L_R10_Product 10) (bodyOf Tryz.prog 10 11) (sp_R10_Product_10_11.s.ts sp_R10_Product_10_11.n [.l v0, .l v1, .i v2, .i v3, .i v4, .s v5, .s v6, .s v7, .i v8, .i v9, .l v10, .l v11, .b v12, .l v13, .l v14]) (sp_R10_Product_10_11.s.h [.l v0, .l v1, .i v2, .i v3, .i v4, .s v5, .s v6, .s v7, .i v8, .i v9, .l v10, .l v11, .b v12, .l v13, .l v14]) (idc Tryz.prog 0 (L_R10_Product 10) 11) =
    (rd_R10_Product_10_11 [.l v0, .l v1, .i v2, .i v3, .i v4, .s v5, .s v6, .s v7, .i v8, .i v9, .l v10, .l v11, .b v12, .l v13, .l v14]).go br (fun us' => some (.normal, sp_R10_Product_10_11.s.ts sp_R10_Product_10_11.n us', sp_R10_Product_10_11.s.h us')) sp_R10_Product_10_11.fin := by
  rw [← callF_eq, ← runF_eq]; kernel_rfl
theorem lo_R10_Product_10_11 {R : Type} : LoopTells Tryz.prog X164 M_R10_Product L_R10_Product 0 (L_R10_Product 10) (bodyOf Tryz.prog 10 11) (gL (R := R) sp_R10_Product_10_11 rd_R10_Product_10_11 br) :=
  loopTold (callK_ev (loopsOK_list rids noneIn) 40) (lsokIn (loopsOK_list rids noneIn) 10 0 11) (by kernel_rfl) sp_R10_Product_10_11 rd_R10_Product_10_11 rfl (by kernel_rfl) (by
    intro us v h; unfold rd_R10_Product_10_11 at h; split at h
    · rename_i v0 v1 v2 v3 v4 v5 v6 v7 v8 v9 v10 v11 v12 v13 v14; exact rq_R10_Product_10_11 v0 v1 v2 v3 v4 v5 v6 v7 v8 v9 v10 v11 v12 v13 v14
    · cases h)
noncomputable abbrev ll_R10_Product_10_11 {R : Type} : List (Nat × Nat × Nat × Smy R) := (10, 0, 11, gL sp_R10_Product_10_11 rd_R10_Product_10_11 br) :: []
theorem lk_R10_Product_10_11 {R : Type} : ∀ e ∈ ll_R10_Product_10_11 (R := R), LoopTells Tryz.prog X164 M_R10_Product L_R10_Product e.2.1 (L_R10_Product e.1) (bodyOf Tryz.prog e.1 e.2.2.1) e.2.2.2 := List.forall_mem_cons.2 ⟨lo_R10_Product_10_11, noneIn⟩
noncomputable def rd_R10_Product_10_8 : List U → Rt
  | [.l v0, .l v1, .i v2, .i v3, .s v4, .s v5, .s v6, .i v7, .i v8, .l v9, .l v10, .b v11, .l v12, .l v13] =>
    (.test (decide (v3 < ln v0))
    (let r0 : Rs := (lres rd_R10_Product_10_11 [U.l v0, U.l v1, U.i v2, U.i v3, U.i (0 : Int), U.s v4, U.s v5, U.s v6, U.i v7, U.i v8, U.l v9, U.l v10, U.b v11, U.l v12, U.l v13])
    (.test (ok r0 0)
    (.stop 0 [.i (uI (out r0 0) 0)])
    (.test (ok r0 1)
    (.next [.l (uL (out r0 1) 0), .l (uL (out r0 1) 1), .i (uI (out r0 1) 2), .i (w64 (uI (out r0 1) 3 + (1 : Int))), .s (uS (out r0 1) 4), .s (uS (out r0 1) 5), .s (uS (out r0 1) 6), .i (uI (out r0 1) 7), .i (uI (out r0 1) 8), .l (uL (out r0 1) 9), .l (uL (out r0 1) 10), .b (uB (out r0 1) 11), .l (uL (out r0 1) 12), .l (uL (out r0 1) 13)])
    .fail)))
    (.stop 1 [.l v13]))
  | _ => .fail
def sp_R10_Product_10_8 : LSp := ⟨96, ⟨[(1, .one (.l 54)), (2, .one (.l 54)), (3, .one (.ptr 0 0)), (8, .one (.all 1)), (9, .one (.i .i64)), (10, .one (.i .i64))], [.box 28 [.one (.s), .one (.s), .one (.s), .one (.i .i64), .one (.i .i64), .one (.l 58), .one (.l 3), .one (.b), .one (.l 165)], .arr 54 true]⟩, [(.ret, ⟨[(6, .one (.nils)), (7, .one (.i .i64))], []⟩), (.exit 0, ⟨[(8, .one (.all 0))], [.arr 54 true]⟩)]⟩
set_option maxRecDepth 100000 in
theorem rq_R10_Product_10_8 (v0 : List (List PV)) (v1 : List (List PV)) (v2 : Int) (v3 : Int) (v4 : ByteArray) (v5 : ByteArray) (v6 : ByteArray) (v7 : Int) (v8 : Int) (v9 : List (List PV)) (v10 : List (List PV)) (v11 : Bool) (v12 : List (List PV)) (v13 : List (List PV)) : runK br Tryz.prog (callK br Tryz.prog X164 M_R10_Product L_R10_Product (lsT ll_R10_Product_10_11) 40) M_R10_Product (lsT ll_R10_Product_10_11 10 0) 40 0 (L_R10_Product 10) (bodyOf Tryz.prog 10 8) (sp_R10_Product_10_8.s.ts sp_R10_Product_10_8.n [.l v0, .l v1, .i v2, .i v3, .s v4, .s v5, .s v6, .i v7, .i v8, .l v9, .l v10, .b v11, .l v12, .l v13]) (sp_R10_Product_10_8.s.h [.l v0, .l v1, .i v2, .i v3, .s v4, .s v5, .s v6, .i v7, .i v8, .l v9, .l v10, .b v11, .l v12, .l v13]) (idc Tryz.prog 0 (L_R10_Product 10) 8) =
    (rd_R10_Product_10_8 [.l v0, .l v1, .i v2, .i v3, .s v4, .s v5, .s v6, .i v7, .i v8, .l v9, .l v10, .b v11, .l v12, .l v13]).go br (fun us' => some (.normal, sp_R10_Product_10_8.s.ts sp_R10_Product_10_8.n us', sp_R10_Product_10_8.s.h us')) sp_R10_Product_10_8.fin := by
  rw [← callF_eq, ← runF_eq]; kernel_rfl
theorem lo_R10_Product_10_8 {R : Type} : LoopTells Tryz.prog X164 M_R10_Product L_R10_Product 0 (L_R10_Product 10) (bodyOf Tryz.prog 10 8) (gL (R := R) sp_R10_Product_10_8 rd_R10_Product_10_8 br) :=
  loopTold (callK_ev (loopsOK_list rids lk_R10_Product_10_11) 40) (lsokIn (loopsOK_list rids lk_R10_Product_10_11) 10 0 8) (by kernel_rfl) sp_R10_Product_10_8 rd_R10_Product_10_8 rfl (by kernel_rfl) (by
    intro us v h; unfold rd_R10_Product_10_8 at h; split at h
    · rename_i v0 v1 v2 v3 v4 v5 v6 v7 v8 v9 v10 v11 v12 v13; exact rq_R10_Product_10_8 v0 v1 v2 v3 v4 v5 v6 v7 v8 v9 v10 v11 v12 v13
    · cases h)
noncomputable abbrev ll_R10_Product_10_8 {R : Type} : List (Nat × Nat × Nat × Smy R) := (10, 0, 8, gL sp_R10_Product_10_8 rd_R10_Product_10_8 br) :: ll_R10_Product_10_11
theorem lk_R10_Product_10_8 {R : Type} : ∀ e ∈ ll_R10_Product_10_8 (R := R), LoopTells Tryz.prog X164 M_R10_Product L_R10_Product e.2.1 (L_R10_Product e.1) (bodyOf Tryz.prog e.1 e.2.2.1) e.2.2.2 := List.forall_mem_cons.2 ⟨lo_R10_Product_10_8, lk_R10_Product_10_11⟩
def S_R10_Product : FSp := ⟨[.agg [.s, .s, .s, .i .i64, .i .i64, .l 58, .l 3, .b, .l 165], .one (.l 54), .one (.l 54)], [], [110000000], [([.one (.l 54), .one (.i .i64)], [])]⟩
noncomputable def m_R10_Product : List U → Rt
  | [.s v0, .s v1, .s v2, .i v3, .i v4, .l v5, .l v6, .b v7, .l v8, .l v9, .l v10] =>
    (let r0 : Rs := (Rt.res (m_R05_May [U.l v9]))
    (.test (ok r0 0)
    (.test (!uB (out r0 0) 0)
    (.stop 0 [.l [], .i ((0 : Int))])
    (let r1 : Rs := (Rt.res (m_R05_May [U.l v10]))
    (.test (ok r1 0)
    (.test (!uB (out r1 0) 0)
    (.stop 0 [.l [], .i ((0 : Int))])
    (.test (ByteArray.toList v2 == [])
    (.stop 0 [.l v9, .i ((0 : Int))])
    (let r2 : Rs := (lres rd_R10_Product_10_8 [U.l v9, U.l v10, U.i (0 : Int), U.i (0 : Int), U.s v0, U.s v1, U.s v2, U.i v3, U.i v4, U.l v5, U.l v6, U.b v7, U.l v8, U.l []])
    (.test (ok r2 0)
    (.stop 0 [.l [], .i (uI (out r2 0) 0)])
    (.test (ok r2 1)
    (let r3 : Rs := (Rt.res (m_R05_May [U.l (uL (out r2 1) 0)]))
    (.test (ok r3 0)
    (.test (!uB (out r3 0) 0)
    (.stop 0 [.l [], .i ((100 : Int))])
    (.stop 0 [.l (uL (out r2 1) 0), .i ((0 : Int))]))
    .fail))
    .fail)))))
    .fail)))
    .fail))
  | _ => .fail
set_option maxRecDepth 100000 in
theorem q_R10_Product (v0 : ByteArray) (v1 : ByteArray) (v2 : ByteArray) (v3 : Int) (v4 : Int) (v5 : List (List PV)) (v6 : List (List PV)) (v7 : Bool) (v8 : List (List PV)) (v9 : List (List PV)) (v10 : List (List PV)) : callK br Tryz.prog X164 M_R10_Product L_R10_Product (lsT ll_R10_Product_10_8) 60 10 (encs [.s v0, .s v1, .s v2, .i v3, .i v4, .l v5, .l v6, .b v7, .l v8, .l v9, .l v10] 0 S_R10_Product.ap) (encH [.s v0, .s v1, .s v2, .i v3, .i v4, .l v5, .l v6, .b v7, .l v8, .l v9, .l v10] (ws S_R10_Product.ap) S_R10_Product.ah) (fun y => fixR Tryz.prog S_R10_Product.plan S_R10_Product.ah.length y) =
    (m_R10_Product [.s v0, .s v1, .s v2, .i v3, .i v4, .l v5, .l v6, .b v7, .l v8, .l v9, .l v10]).go br (fun _ => none) S_R10_Product.fin := by
  rw [← callF_eq]; kernel_rfl
theorem e_R10_Product : EOK Tryz.prog 10 (gF S_R10_Product m_R10_Product) :=
  eokTold mixed named x164 (loopsOK_list rids lk_R10_Product_10_8) 60 S_R10_Product m_R10_Product (by
    intro us v h; unfold m_R10_Product at h; split at h
    · rename_i v0 v1 v2 v3 v4 v5 v6 v7 v8 v9 v10; exact q_R10_Product v0 v1 v2 v3 v4 v5 v6 v7 v8 v9 v10
    · cases h) false
noncomputable abbrev X165 : Ext := extT [(10, (gF S_R10_Product m_R10_Product))] X164
theorem x165 : XOK Tryz.prog X165 := xok1 x164 e_R10_Product

def L_R03_Takes : FuncId → Nat → Option (List Nat) := liveT []
def M_R03_Takes : FuncId → Bool := fun _ => false
def S_R03_Takes : FSp := ⟨[.one (.i .i64)], [], [], [([.one (.i .i64)], [])]⟩
noncomputable def m_R03_Takes : List U → Rt
  | [.i v0] =>
    (.test (v0 == (0 : Int))
    (.stop 0 [.i ((0 : Int))])
    (.test (v0 == (1 : Int))
    (.stop 0 [.i ((0 : Int))])
    (.test (v0 == (9 : Int))
    (.stop 0 [.i ((1 : Int))])
    (.test (v0 == (10 : Int))
    (.stop 0 [.i ((1 : Int))])
    (.test (decide (v0 ≥ (2 : Int)))
    (.test (decide (v0 ≤ (8 : Int)))
    (.stop 0 [.i ((2 : Int))])
    (.stop 0 [.i ((-1 : Int))]))
    (.stop 0 [.i ((-1 : Int))]))))))
  | _ => .fail
set_option maxRecDepth 100000 in
theorem q_R03_Takes (v0 : Int) : callK br Tryz.prog X165 M_R03_Takes L_R03_Takes (lsT []) 60 82 (encs [.i v0] 0 S_R03_Takes.ap) (encH [.i v0] (ws S_R03_Takes.ap) S_R03_Takes.ah) (fun y => fixR Tryz.prog S_R03_Takes.plan S_R03_Takes.ah.length y) =
    (m_R03_Takes [.i v0]).go br (fun _ => none) S_R03_Takes.fin := by
  rw [← callF_eq]; kernel_rfl
theorem e_R03_Takes : EOK Tryz.prog 82 (gF S_R03_Takes m_R03_Takes) :=
  eokTold mixed named x165 (loopsOK_list rids noneIn) 60 S_R03_Takes m_R03_Takes (by
    intro us v h; unfold m_R03_Takes at h; split at h
    · rename_i v0; exact q_R03_Takes v0
    · cases h) false
noncomputable abbrev X166 : Ext := extT [(82, (gF S_R03_Takes m_R03_Takes))] X165
theorem x166 : XOK Tryz.prog X166 := xok1 x165 e_R03_Takes

def L_R03_Leaves : FuncId → Nat → Option (List Nat) := liveT []
def M_R03_Leaves : FuncId → Bool := fun _ => false
def S_R03_Leaves : FSp := ⟨[.one (.i .i64), .one (.i .i64), .one (.i .i64)], [], [], [([.one (.i .i64), .one (.b)], [])]⟩
noncomputable def m_R03_Leaves : List U → Rt
  | [.i v0, .i v1, .i v2] =>
    (.test (v0 == (2 : Int))
    (.test (v1 == (2 : Int))
    (.test (v2 == (2 : Int))
    (.stop 0 [.i ((2 : Int)), .b true])
    (.stop 0 [.i ((2 : Int)), .b (v2 == (0 : Int))]))
    (.test (v1 == (0 : Int))
    (.test (v2 == (2 : Int))
    (.stop 0 [.i ((2 : Int)), .b true])
    (.stop 0 [.i ((2 : Int)), .b (v2 == (0 : Int))]))
    (.stop 0 [.i ((2 : Int)), .b false])))
    (.test (v0 == (3 : Int))
    (.test (v1 == (2 : Int))
    (.test (v2 == (2 : Int))
    (.stop 0 [.i ((2 : Int)), .b true])
    (.stop 0 [.i ((2 : Int)), .b (v2 == (0 : Int))]))
    (.test (v1 == (0 : Int))
    (.test (v2 == (2 : Int))
    (.stop 0 [.i ((2 : Int)), .b true])
    (.stop 0 [.i ((2 : Int)), .b (v2 == (0 : Int))]))
    (.stop 0 [.i ((2 : Int)), .b false])))
    (.test (v0 == (4 : Int))
    (.test (v1 == (2 : Int))
    (.test (v2 == (2 : Int))
    (.stop 0 [.i ((2 : Int)), .b true])
    (.stop 0 [.i ((2 : Int)), .b (v2 == (0 : Int))]))
    (.test (v1 == (0 : Int))
    (.test (v2 == (2 : Int))
    (.stop 0 [.i ((2 : Int)), .b true])
    (.stop 0 [.i ((2 : Int)), .b (v2 == (0 : Int))]))
    (.stop 0 [.i ((2 : Int)), .b false])))
    (.test (v0 == (5 : Int))
    (.test (v1 == v2)
    (.stop 0 [.i ((1 : Int)), .b true])
    (.test (v1 == (0 : Int))
    (.stop 0 [.i ((1 : Int)), .b true])
    (.stop 0 [.i ((1 : Int)), .b (v2 == (0 : Int))])))
    (.test (v0 == (6 : Int))
    (.test (v1 == v2)
    (.stop 0 [.i ((1 : Int)), .b true])
    (.test (v1 == (0 : Int))
    (.stop 0 [.i ((1 : Int)), .b true])
    (.stop 0 [.i ((1 : Int)), .b (v2 == (0 : Int))])))
    (.test (v0 == (7 : Int))
    (.test (v1 == (1 : Int))
    (.test (v2 == (1 : Int))
    (.stop 0 [.i ((1 : Int)), .b true])
    (.stop 0 [.i ((1 : Int)), .b (v2 == (0 : Int))]))
    (.test (v1 == (0 : Int))
    (.test (v2 == (1 : Int))
    (.stop 0 [.i ((1 : Int)), .b true])
    (.stop 0 [.i ((1 : Int)), .b (v2 == (0 : Int))]))
    (.stop 0 [.i ((1 : Int)), .b false])))
    (.test (v0 == (8 : Int))
    (.test (v1 == (1 : Int))
    (.test (v2 == (1 : Int))
    (.stop 0 [.i ((1 : Int)), .b true])
    (.stop 0 [.i ((1 : Int)), .b (v2 == (0 : Int))]))
    (.test (v1 == (0 : Int))
    (.test (v2 == (1 : Int))
    (.stop 0 [.i ((1 : Int)), .b true])
    (.stop 0 [.i ((1 : Int)), .b (v2 == (0 : Int))]))
    (.stop 0 [.i ((1 : Int)), .b false])))
    (.test (v0 == (9 : Int))
    (.test (v2 == (1 : Int))
    (.stop 0 [.i ((1 : Int)), .b true])
    (.stop 0 [.i ((1 : Int)), .b (v2 == (0 : Int))]))
    (.stop 0 [.i ((1 : Int)), .b true])))))))))
  | _ => .fail
set_option maxRecDepth 100000 in
theorem q_R03_Leaves (v0 : Int) (v1 : Int) (v2 : Int) : callK br Tryz.prog X166 M_R03_Leaves L_R03_Leaves (lsT []) 60 84 (encs [.i v0, .i v1, .i v2] 0 S_R03_Leaves.ap) (encH [.i v0, .i v1, .i v2] (ws S_R03_Leaves.ap) S_R03_Leaves.ah) (fun y => fixR Tryz.prog S_R03_Leaves.plan S_R03_Leaves.ah.length y) =
    (m_R03_Leaves [.i v0, .i v1, .i v2]).go br (fun _ => none) S_R03_Leaves.fin := by
  rw [← callF_eq]; kernel_rfl
theorem e_R03_Leaves : EOK Tryz.prog 84 (gF S_R03_Leaves m_R03_Leaves) :=
  eokTold mixed named x166 (loopsOK_list rids noneIn) 60 S_R03_Leaves m_R03_Leaves (by
    intro us v h; unfold m_R03_Leaves at h; split at h
    · rename_i v0 v1 v2; exact q_R03_Leaves v0 v1 v2
    · cases h) false
noncomputable abbrev X167 : Ext := extT [(84, (gF S_R03_Leaves m_R03_Leaves))] X166
theorem x167 : XOK Tryz.prog X167 := xok1 x166 e_R03_Leaves

def L_R01_Nulls : FuncId → Nat → Option (List Nat) := liveT []
def M_R01_Nulls : FuncId → Bool := fun _ => false
def S_R01_Nulls : FSp := ⟨[.agg [.i .i64, .i .i64, .s], .agg [.i .i64, .i .i64, .s]], [], [], [([.one (.b)], [])]⟩
noncomputable def m_R01_Nulls : List U → Rt
  | [.i v0, .i v1, .s v2, .i v3, .i v4, .s v5] =>
    (.test (v0 == (0 : Int))
    (.stop 0 [.b true])
    (.stop 0 [.b (v3 == (0 : Int))]))
  | _ => .fail
set_option maxRecDepth 100000 in
theorem q_R01_Nulls (v0 : Int) (v1 : Int) (v2 : ByteArray) (v3 : Int) (v4 : Int) (v5 : ByteArray) : callK br Tryz.prog X167 M_R01_Nulls L_R01_Nulls (lsT []) 60 102 (encs [.i v0, .i v1, .s v2, .i v3, .i v4, .s v5] 0 S_R01_Nulls.ap) (encH [.i v0, .i v1, .s v2, .i v3, .i v4, .s v5] (ws S_R01_Nulls.ap) S_R01_Nulls.ah) (fun y => fixR Tryz.prog S_R01_Nulls.plan S_R01_Nulls.ah.length y) =
    (m_R01_Nulls [.i v0, .i v1, .s v2, .i v3, .i v4, .s v5]).go br (fun _ => none) S_R01_Nulls.fin := by
  rw [← callF_eq]; kernel_rfl
theorem e_R01_Nulls : EOK Tryz.prog 102 (gF S_R01_Nulls m_R01_Nulls) :=
  eokTold mixed named x167 (loopsOK_list rids noneIn) 60 S_R01_Nulls m_R01_Nulls (by
    intro us v h; unfold m_R01_Nulls at h; split at h
    · rename_i v0 v1 v2 v3 v4 v5; exact q_R01_Nulls v0 v1 v2 v3 v4 v5
    · cases h) false
noncomputable abbrev X168 : Ext := extT [(102, (gF S_R01_Nulls m_R01_Nulls))] X167
theorem x168 : XOK Tryz.prog X168 := xok1 x167 e_R01_Nulls

def L_R01_Ints : FuncId → Nat → Option (List Nat) := liveT []
def M_R01_Ints : FuncId → Bool := fun _ => false
def S_R01_Ints : FSp := ⟨[.agg [.i .i64, .i .i64, .s], .agg [.i .i64, .i .i64, .s]], [], [], [([.one (.b)], [])]⟩
noncomputable def m_R01_Ints : List U → Rt
  | [.i v0, .i v1, .s v2, .i v3, .i v4, .s v5] =>
    (.test (v0 == (2 : Int))
    (.stop 0 [.b (v3 == (2 : Int))])
    (.stop 0 [.b false]))
  | _ => .fail
set_option maxRecDepth 100000 in
theorem q_R01_Ints (v0 : Int) (v1 : Int) (v2 : ByteArray) (v3 : Int) (v4 : Int) (v5 : ByteArray) : callK br Tryz.prog X168 M_R01_Ints L_R01_Ints (lsT []) 60 115 (encs [.i v0, .i v1, .s v2, .i v3, .i v4, .s v5] 0 S_R01_Ints.ap) (encH [.i v0, .i v1, .s v2, .i v3, .i v4, .s v5] (ws S_R01_Ints.ap) S_R01_Ints.ah) (fun y => fixR Tryz.prog S_R01_Ints.plan S_R01_Ints.ah.length y) =
    (m_R01_Ints [.i v0, .i v1, .s v2, .i v3, .i v4, .s v5]).go br (fun _ => none) S_R01_Ints.fin := by
  rw [← callF_eq]; kernel_rfl
theorem e_R01_Ints : EOK Tryz.prog 115 (gF S_R01_Ints m_R01_Ints) :=
  eokTold mixed named x168 (loopsOK_list rids noneIn) 60 S_R01_Ints m_R01_Ints (by
    intro us v h; unfold m_R01_Ints at h; split at h
    · rename_i v0 v1 v2 v3 v4 v5; exact q_R01_Ints v0 v1 v2 v3 v4 v5
    · cases h) false
noncomputable abbrev X169 : Ext := extT [(115, (gF S_R01_Ints m_R01_Ints))] X168
theorem x169 : XOK Tryz.prog X169 := xok1 x168 e_R01_Ints

def L_R01_Most : FuncId → Nat → Option (List Nat) := liveT []
def M_R01_Most : FuncId → Bool := fun _ => false
def S_R01_Most : FSp := ⟨[], [], [], [([.one (.i .i64)], [])]⟩
noncomputable def m_R01_Most : List U → Rt
  | [] =>
    (.stop 0 [.i ((9223372036854775807 : Int))])
  | _ => .fail
set_option maxRecDepth 100000 in
theorem q_R01_Most : callK br Tryz.prog X169 M_R01_Most L_R01_Most (lsT []) 60 116 (encs [] 0 S_R01_Most.ap) (encH [] (ws S_R01_Most.ap) S_R01_Most.ah) (fun y => fixR Tryz.prog S_R01_Most.plan S_R01_Most.ah.length y) =
    (m_R01_Most []).go br (fun _ => none) S_R01_Most.fin := by
  rw [← callF_eq]; kernel_rfl
theorem e_R01_Most : EOK Tryz.prog 116 (gI S_R01_Most m_R01_Most) :=
  eokTold mixed named x169 (loopsOK_list rids noneIn) 60 S_R01_Most m_R01_Most (by
    intro us v h; unfold m_R01_Most at h; split at h
    · exact q_R01_Most
    · cases h) true
noncomputable abbrev X170 : Ext := extT [(116, (gI S_R01_Most m_R01_Most))] X169
theorem x170 : XOK Tryz.prog X170 := xok1 x169 e_R01_Most

def L_R01_Least : FuncId → Nat → Option (List Nat) := liveT []
def M_R01_Least : FuncId → Bool := fun _ => false
def S_R01_Least : FSp := ⟨[], [], [], [([.one (.i .i64)], [])]⟩
noncomputable def m_R01_Least : List U → Rt
  | [] =>
    (.stop 0 [.i ((-9223372036854775808 : Int))])
  | _ => .fail
set_option maxRecDepth 100000 in
theorem q_R01_Least : callK br Tryz.prog X170 M_R01_Least L_R01_Least (lsT []) 60 117 (encs [] 0 S_R01_Least.ap) (encH [] (ws S_R01_Least.ap) S_R01_Least.ah) (fun y => fixR Tryz.prog S_R01_Least.plan S_R01_Least.ah.length y) =
    (m_R01_Least []).go br (fun _ => none) S_R01_Least.fin := by
  rw [← callF_eq]; kernel_rfl
theorem e_R01_Least : EOK Tryz.prog 117 (gI S_R01_Least m_R01_Least) :=
  eokTold mixed named x170 (loopsOK_list rids noneIn) 60 S_R01_Least m_R01_Least (by
    intro us v h; unfold m_R01_Least at h; split at h
    · exact q_R01_Least
    · cases h) true
noncomputable abbrev X171 : Ext := extT [(117, (gI S_R01_Least m_R01_Least))] X170
theorem x171 : XOK Tryz.prog X171 := xok1 x170 e_R01_Least

def L_R01_Add : FuncId → Nat → Option (List Nat) := liveT []
def M_R01_Add : FuncId → Bool := fun _ => false
def S_R01_Add : FSp := ⟨[.agg [.i .i64, .i .i64, .s], .agg [.i .i64, .i .i64, .s]], [], [], [([.agg [.i .i64, .i .i64, .s], .one (.b)], [])]⟩
noncomputable def m_R01_Add : List U → Rt
  | [.i v0, .i v1, .s v2, .i v3, .i v4, .s v5] =>
    (let r0 : Rs := (Rt.res (m_R01_Nulls [U.i v0, U.i v1, U.s v2, U.i v3, U.i v4, U.s v5]))
    (.test (ok r0 0)
    (.test (uB (out r0 0) 0)
    (.stop 0 [.i ((0 : Int)), .i ((0 : Int)), .s ({ data := #[] }), .b true])
    (let r1 : Rs := (Rt.res (m_R01_Ints [U.i v0, U.i v1, U.s v2, U.i v3, U.i v4, U.s v5]))
    (.test (ok r1 0)
    (.test (!uB (out r1 0) 0)
    (.stop 0 [.i ((0 : Int)), .i ((0 : Int)), .s ({ data := #[] }), .b false])
    (.test (decide (v4 > (0 : Int)))
    (.test (decide (v1 > w64 ((9223372036854775807 : Int) - v4)))
    (.stop 0 [.i ((0 : Int)), .i ((0 : Int)), .s ({ data := #[] }), .b false])
    (.test (decide (v4 < (0 : Int)))
    (.test (decide (v1 < w64 ((-9223372036854775808 : Int) - v4)))
    (.stop 0 [.i ((0 : Int)), .i ((0 : Int)), .s ({ data := #[] }), .b false])
    (.stop 0 [.i ((2 : Int)), .i (w64 (v1 + v4)), .s ({ data := #[] }), .b true]))
    (.stop 0 [.i ((2 : Int)), .i (w64 (v1 + v4)), .s ({ data := #[] }), .b true])))
    (.test (decide (v4 < (0 : Int)))
    (.test (decide (v1 < w64 ((-9223372036854775808 : Int) - v4)))
    (.stop 0 [.i ((0 : Int)), .i ((0 : Int)), .s ({ data := #[] }), .b false])
    (.stop 0 [.i ((2 : Int)), .i (w64 (v1 + v4)), .s ({ data := #[] }), .b true]))
    (.stop 0 [.i ((2 : Int)), .i (w64 (v1 + v4)), .s ({ data := #[] }), .b true]))))
    .fail)))
    .fail))
  | _ => .fail
set_option maxRecDepth 100000 in
theorem q_R01_Add (v0 : Int) (v1 : Int) (v2 : ByteArray) (v3 : Int) (v4 : Int) (v5 : ByteArray) : callK br Tryz.prog X171 M_R01_Add L_R01_Add (lsT []) 60 96 (encs [.i v0, .i v1, .s v2, .i v3, .i v4, .s v5] 0 S_R01_Add.ap) (encH [.i v0, .i v1, .s v2, .i v3, .i v4, .s v5] (ws S_R01_Add.ap) S_R01_Add.ah) (fun y => fixR Tryz.prog S_R01_Add.plan S_R01_Add.ah.length y) =
    (m_R01_Add [.i v0, .i v1, .s v2, .i v3, .i v4, .s v5]).go br (fun _ => none) S_R01_Add.fin := by
  rw [← callF_eq]; kernel_rfl
theorem e_R01_Add : EOK Tryz.prog 96 (gF S_R01_Add m_R01_Add) :=
  eokTold mixed named x171 (loopsOK_list rids noneIn) 60 S_R01_Add m_R01_Add (by
    intro us v h; unfold m_R01_Add at h; split at h
    · rename_i v0 v1 v2 v3 v4 v5; exact q_R01_Add v0 v1 v2 v3 v4 v5
    · cases h) false
noncomputable abbrev X172 : Ext := extT [(96, (gF S_R01_Add m_R01_Add))] X171
theorem x172 : XOK Tryz.prog X172 := xok1 x171 e_R01_Add

def L_R01_Sub : FuncId → Nat → Option (List Nat) := liveT []
def M_R01_Sub : FuncId → Bool := fun _ => false
def S_R01_Sub : FSp := ⟨[.agg [.i .i64, .i .i64, .s], .agg [.i .i64, .i .i64, .s]], [], [], [([.agg [.i .i64, .i .i64, .s], .one (.b)], [])]⟩
noncomputable def m_R01_Sub : List U → Rt
  | [.i v0, .i v1, .s v2, .i v3, .i v4, .s v5] =>
    (let r0 : Rs := (Rt.res (m_R01_Nulls [U.i v0, U.i v1, U.s v2, U.i v3, U.i v4, U.s v5]))
    (.test (ok r0 0)
    (.test (uB (out r0 0) 0)
    (.stop 0 [.i ((0 : Int)), .i ((0 : Int)), .s ({ data := #[] }), .b true])
    (let r1 : Rs := (Rt.res (m_R01_Ints [U.i v0, U.i v1, U.s v2, U.i v3, U.i v4, U.s v5]))
    (.test (ok r1 0)
    (.test (!uB (out r1 0) 0)
    (.stop 0 [.i ((0 : Int)), .i ((0 : Int)), .s ({ data := #[] }), .b false])
    (.test (decide (v4 < (0 : Int)))
    (.test (decide (v1 > w64 ((9223372036854775807 : Int) + v4)))
    (.stop 0 [.i ((0 : Int)), .i ((0 : Int)), .s ({ data := #[] }), .b false])
    (.test (decide (v4 > (0 : Int)))
    (.test (decide (v1 < w64 ((-9223372036854775808 : Int) + v4)))
    (.stop 0 [.i ((0 : Int)), .i ((0 : Int)), .s ({ data := #[] }), .b false])
    (.stop 0 [.i ((2 : Int)), .i (w64 (v1 - v4)), .s ({ data := #[] }), .b true]))
    (.stop 0 [.i ((2 : Int)), .i (w64 (v1 - v4)), .s ({ data := #[] }), .b true])))
    (.test (decide (v4 > (0 : Int)))
    (.test (decide (v1 < w64 ((-9223372036854775808 : Int) + v4)))
    (.stop 0 [.i ((0 : Int)), .i ((0 : Int)), .s ({ data := #[] }), .b false])
    (.stop 0 [.i ((2 : Int)), .i (w64 (v1 - v4)), .s ({ data := #[] }), .b true]))
    (.stop 0 [.i ((2 : Int)), .i (w64 (v1 - v4)), .s ({ data := #[] }), .b true]))))
    .fail)))
    .fail))
  | _ => .fail
set_option maxRecDepth 100000 in
theorem q_R01_Sub (v0 : Int) (v1 : Int) (v2 : ByteArray) (v3 : Int) (v4 : Int) (v5 : ByteArray) : callK br Tryz.prog X172 M_R01_Sub L_R01_Sub (lsT []) 60 97 (encs [.i v0, .i v1, .s v2, .i v3, .i v4, .s v5] 0 S_R01_Sub.ap) (encH [.i v0, .i v1, .s v2, .i v3, .i v4, .s v5] (ws S_R01_Sub.ap) S_R01_Sub.ah) (fun y => fixR Tryz.prog S_R01_Sub.plan S_R01_Sub.ah.length y) =
    (m_R01_Sub [.i v0, .i v1, .s v2, .i v3, .i v4, .s v5]).go br (fun _ => none) S_R01_Sub.fin := by
  rw [← callF_eq]; kernel_rfl
theorem e_R01_Sub : EOK Tryz.prog 97 (gF S_R01_Sub m_R01_Sub) :=
  eokTold mixed named x172 (loopsOK_list rids noneIn) 60 S_R01_Sub m_R01_Sub (by
    intro us v h; unfold m_R01_Sub at h; split at h
    · rename_i v0 v1 v2 v3 v4 v5; exact q_R01_Sub v0 v1 v2 v3 v4 v5
    · cases h) false
noncomputable abbrev X173 : Ext := extT [(97, (gF S_R01_Sub m_R01_Sub))] X172
theorem x173 : XOK Tryz.prog X173 := xok1 x172 e_R01_Sub

def L_R01_Mul : FuncId → Nat → Option (List Nat) := liveT []
def M_R01_Mul : FuncId → Bool := fun _ => false
def S_R01_Mul : FSp := ⟨[.agg [.i .i64, .i .i64, .s], .agg [.i .i64, .i .i64, .s]], [], [], [([.agg [.i .i64, .i .i64, .s], .one (.b)], [])]⟩
noncomputable def m_R01_Mul : List U → Rt
  | [.i v0, .i v1, .s v2, .i v3, .i v4, .s v5] =>
    (let r0 : Rs := (Rt.res (m_R01_Nulls [U.i v0, U.i v1, U.s v2, U.i v3, U.i v4, U.s v5]))
    (.test (ok r0 0)
    (.test (uB (out r0 0) 0)
    (.stop 0 [.i ((0 : Int)), .i ((0 : Int)), .s ({ data := #[] }), .b true])
    (let r1 : Rs := (Rt.res (m_R01_Ints [U.i v0, U.i v1, U.s v2, U.i v3, U.i v4, U.s v5]))
    (.test (ok r1 0)
    (.test (!uB (out r1 0) 0)
    (.stop 0 [.i ((0 : Int)), .i ((0 : Int)), .s ({ data := #[] }), .b false])
    (.test (v1 == (0 : Int))
    (.stop 0 [.i ((2 : Int)), .i ((0 : Int)), .s ({ data := #[] }), .b true])
    (.test (v4 == (0 : Int))
    (.stop 0 [.i ((2 : Int)), .i ((0 : Int)), .s ({ data := #[] }), .b true])
    (.test (v1 == (-1 : Int))
    (.test (v4 == (-9223372036854775808 : Int))
    (.stop 0 [.i ((0 : Int)), .i ((0 : Int)), .s ({ data := #[] }), .b false])
    (.test (v4 == (-1 : Int))
    (.test (v1 == (-9223372036854775808 : Int))
    (.stop 0 [.i ((0 : Int)), .i ((0 : Int)), .s ({ data := #[] }), .b false])
    (.test (decide (v4 = (0 : Int)))
    .fail
    (.test (w64 (Int.tdiv (w64 (v1 * v4)) v4) != v1)
    (.stop 0 [.i ((0 : Int)), .i ((0 : Int)), .s ({ data := #[] }), .b false])
    (.test (decide (v4 = (0 : Int)))
    .fail
    (.test (Int.tmod (w64 (v1 * v4)) v4 != (0 : Int))
    (.stop 0 [.i ((0 : Int)), .i ((0 : Int)), .s ({ data := #[] }), .b false])
    (.stop 0 [.i ((2 : Int)), .i (w64 (v1 * v4)), .s ({ data := #[] }), .b true]))))))
    (.test (decide (v4 = (0 : Int)))
    .fail
    (.test (w64 (Int.tdiv (w64 (v1 * v4)) v4) != v1)
    (.stop 0 [.i ((0 : Int)), .i ((0 : Int)), .s ({ data := #[] }), .b false])
    (.test (decide (v4 = (0 : Int)))
    .fail
    (.test (Int.tmod (w64 (v1 * v4)) v4 != (0 : Int))
    (.stop 0 [.i ((0 : Int)), .i ((0 : Int)), .s ({ data := #[] }), .b false])
    (.stop 0 [.i ((2 : Int)), .i (w64 (v1 * v4)), .s ({ data := #[] }), .b true])))))))
    (.test (v4 == (-1 : Int))
    (.test (v1 == (-9223372036854775808 : Int))
    (.stop 0 [.i ((0 : Int)), .i ((0 : Int)), .s ({ data := #[] }), .b false])
    (.test (decide (v4 = (0 : Int)))
    .fail
    (.test (w64 (Int.tdiv (w64 (v1 * v4)) v4) != v1)
    (.stop 0 [.i ((0 : Int)), .i ((0 : Int)), .s ({ data := #[] }), .b false])
    (.test (decide (v4 = (0 : Int)))
    .fail
    (.test (Int.tmod (w64 (v1 * v4)) v4 != (0 : Int))
    (.stop 0 [.i ((0 : Int)), .i ((0 : Int)), .s ({ data := #[] }), .b false])
    (.stop 0 [.i ((2 : Int)), .i (w64 (v1 * v4)), .s ({ data := #[] }), .b true]))))))
    (.test (decide (v4 = (0 : Int)))
    .fail
    (.test (w64 (Int.tdiv (w64 (v1 * v4)) v4) != v1)
    (.stop 0 [.i ((0 : Int)), .i ((0 : Int)), .s ({ data := #[] }), .b false])
    (.test (decide (v4 = (0 : Int)))
    .fail
    (.test (Int.tmod (w64 (v1 * v4)) v4 != (0 : Int))
    (.stop 0 [.i ((0 : Int)), .i ((0 : Int)), .s ({ data := #[] }), .b false])
    (.stop 0 [.i ((2 : Int)), .i (w64 (v1 * v4)), .s ({ data := #[] }), .b true]))))))))))
    .fail)))
    .fail))
  | _ => .fail
set_option maxRecDepth 100000 in
theorem q_R01_Mul (v0 : Int) (v1 : Int) (v2 : ByteArray) (v3 : Int) (v4 : Int) (v5 : ByteArray) : callK br Tryz.prog X173 M_R01_Mul L_R01_Mul (lsT []) 60 98 (encs [.i v0, .i v1, .s v2, .i v3, .i v4, .s v5] 0 S_R01_Mul.ap) (encH [.i v0, .i v1, .s v2, .i v3, .i v4, .s v5] (ws S_R01_Mul.ap) S_R01_Mul.ah) (fun y => fixR Tryz.prog S_R01_Mul.plan S_R01_Mul.ah.length y) =
    (m_R01_Mul [.i v0, .i v1, .s v2, .i v3, .i v4, .s v5]).go br (fun _ => none) S_R01_Mul.fin := by
  rw [← callF_eq]; kernel_rfl
theorem e_R01_Mul : EOK Tryz.prog 98 (gF S_R01_Mul m_R01_Mul) :=
  eokTold mixed named x173 (loopsOK_list rids noneIn) 60 S_R01_Mul m_R01_Mul (by
    intro us v h; unfold m_R01_Mul at h; split at h
    · rename_i v0 v1 v2 v3 v4 v5; exact q_R01_Mul v0 v1 v2 v3 v4 v5
    · cases h) false
noncomputable abbrev X174 : Ext := extT [(98, (gF S_R01_Mul m_R01_Mul))] X173
theorem x174 : XOK Tryz.prog X174 := xok1 x173 e_R01_Mul

def L_R01_Truth : FuncId → Nat → Option (List Nat) := liveT []
def M_R01_Truth : FuncId → Bool := fun _ => false
def S_R01_Truth : FSp := ⟨[.one (.b)], [], [], [([.agg [.i .i64, .i .i64, .s]], [])]⟩
noncomputable def m_R01_Truth : List U → Rt
  | [.b v0] =>
    (.test v0
    (.stop 0 [.i ((1 : Int)), .i ((1 : Int)), .s ({ data := #[] })])
    (.stop 0 [.i ((1 : Int)), .i ((0 : Int)), .s ({ data := #[] })]))
  | _ => .fail
set_option maxRecDepth 100000 in
theorem q_R01_Truth (v0 : Bool) : callK br Tryz.prog X174 M_R01_Truth L_R01_Truth (lsT []) 60 69 (encs [.b v0] 0 S_R01_Truth.ap) (encH [.b v0] (ws S_R01_Truth.ap) S_R01_Truth.ah) (fun y => fixR Tryz.prog S_R01_Truth.plan S_R01_Truth.ah.length y) =
    (m_R01_Truth [.b v0]).go br (fun _ => none) S_R01_Truth.fin := by
  rw [← callF_eq]; kernel_rfl
theorem e_R01_Truth : EOK Tryz.prog 69 (gF S_R01_Truth m_R01_Truth) :=
  eokTold mixed named x174 (loopsOK_list rids noneIn) 60 S_R01_Truth m_R01_Truth (by
    intro us v h; unfold m_R01_Truth at h; split at h
    · rename_i v0; exact q_R01_Truth v0
    · cases h) false
noncomputable abbrev X175 : Ext := extT [(69, (gF S_R01_Truth m_R01_Truth))] X174
theorem x175 : XOK Tryz.prog X175 := xok1 x174 e_R01_Truth

def L_R01_And : FuncId → Nat → Option (List Nat) := liveT [(99, 3, [0, 2, 3, 4]), (99, 1000003, [2, 3]), (99, 2000003, [2])]
def M_R01_And : FuncId → Bool := fun _ => false
noncomputable def rd_R01_And_99_3 : List U → Rt
  | [.l v0, .b v1, .i v2, .i v3, .i v4, .s v5] =>
    (.test (decide (v2 < ln v0))
    (.test (inR v2 (ln v0))
    (.test (cI (el v0 v2) 0 == (1 : Int) && (cI (el v0 v2) 1 == (0 : Int) && (ByteArray.toList (cS (el v0 v2) 2) == [] && true)))
    (.stop 0 [.i ((1 : Int)), .i ((0 : Int)), .s ({ data := #[] })])
    (.test v1
    (.test (inR v2 (ln v0))
    (.next [.l v0, .b (cI (el v0 v2) 0 == (1 : Int) && (cI (el v0 v2) 1 == (1 : Int) && (ByteArray.toList (cS (el v0 v2) 2) == [] && true))), .i (w64 (v2 + (1 : Int))), .i v3, .i v4, .s v5])
    .fail)
    (.next [.l v0, .b false, .i (w64 (v2 + (1 : Int))), .i v3, .i v4, .s v5])))
    .fail)
    (.stop 1 [.b v1, .i v3, .i v4, .s v5]))
  | _ => .fail
def sp_R01_And_99_3 : LSp := ⟨30, ⟨[(0, .one (.l 56)), (2, .one (.ptr 0 0)), (3, .one (.b)), (4, .one (.i .i64))], [.box 56 [.one (.i .i64), .one (.i .i64), .one (.s)]]⟩, [(.ret, ⟨[(2, .one (.ptr 0 0))], [.box 56 [.one (.i .i64), .one (.i .i64), .one (.s)]]⟩), (.exit 0, ⟨[(2, .one (.ptr 0 0)), (3, .one (.b))], [.box 56 [.one (.i .i64), .one (.i .i64), .one (.s)]]⟩)]⟩
set_option maxRecDepth 100000 in
theorem rq_R01_And_99_3 (v0 : List (List PV)) (v1 : Bool) (v2 : Int) (v3 : Int) (v4 : Int) (v5 : ByteArray) : runK br Tryz.prog (callK br Tryz.prog X175 M_R01_And L_R01_And (lsT []) 40) M_R01_And (lsT [] 99 0) 40 0 (L_R01_And 99) (bodyOf Tryz.prog 99 3) (sp_R01_And_99_3.s.ts sp_R01_And_99_3.n [.l v0, .b v1, .i v2, .i v3, .i v4, .s v5]) (sp_R01_And_99_3.s.h [.l v0, .b v1, .i v2, .i v3, .i v4, .s v5]) (idc Tryz.prog 0 (L_R01_And 99) 3) =
    (rd_R01_And_99_3 [.l v0, .b v1, .i v2, .i v3, .i v4, .s v5]).go br (fun us' => some (.normal, sp_R01_And_99_3.s.ts sp_R01_And_99_3.n us', sp_R01_And_99_3.s.h us')) sp_R01_And_99_3.fin := by
  rw [← callF_eq, ← runF_eq]; kernel_rfl
theorem lo_R01_And_99_3 {R : Type} : LoopTells Tryz.prog X175 M_R01_And L_R01_And 0 (L_R01_And 99) (bodyOf Tryz.prog 99 3) (gL (R := R) sp_R01_And_99_3 rd_R01_And_99_3 br) :=
  loopTold (callK_ev (loopsOK_list rids noneIn) 40) (lsokIn (loopsOK_list rids noneIn) 99 0 3) (by kernel_rfl) sp_R01_And_99_3 rd_R01_And_99_3 rfl (by kernel_rfl) (by
    intro us v h; unfold rd_R01_And_99_3 at h; split at h
    · rename_i v0 v1 v2 v3 v4 v5; exact rq_R01_And_99_3 v0 v1 v2 v3 v4 v5
    · cases h)
noncomputable abbrev ll_R01_And_99_3 {R : Type} : List (Nat × Nat × Nat × Smy R) := (99, 0, 3, gL sp_R01_And_99_3 rd_R01_And_99_3 br) :: []
theorem lk_R01_And_99_3 {R : Type} : ∀ e ∈ ll_R01_And_99_3 (R := R), LoopTells Tryz.prog X175 M_R01_And L_R01_And e.2.1 (L_R01_And e.1) (bodyOf Tryz.prog e.1 e.2.2.1) e.2.2.2 := List.forall_mem_cons.2 ⟨lo_R01_And_99_3, noneIn⟩
def S_R01_And : FSp := ⟨[.one (.l 56)], [], [], [([.agg [.i .i64, .i .i64, .s]], [])]⟩
noncomputable def m_R01_And : List U → Rt
  | [.l v0] =>
    (let r0 : Rs := (lres rd_R01_And_99_3 [U.l v0, U.b true, U.i (0 : Int), U.i (0 : Int), U.i (0 : Int), U.s { data := #[] }])
    (.test (ok r0 0)
    (.stop 0 [.i (uI (out r0 0) 0), .i (uI (out r0 0) 1), .s (uS (out r0 0) 2)])
    (.test (ok r0 1)
    (.test (uB (out r0 1) 0)
    (.stop 0 [.i ((1 : Int)), .i ((1 : Int)), .s ({ data := #[] })])
    (.stop 0 [.i ((0 : Int)), .i ((0 : Int)), .s ({ data := #[] })]))
    .fail)))
  | _ => .fail
set_option maxRecDepth 100000 in
theorem q_R01_And (v0 : List (List PV)) : callK br Tryz.prog X175 M_R01_And L_R01_And (lsT ll_R01_And_99_3) 60 99 (encs [.l v0] 0 S_R01_And.ap) (encH [.l v0] (ws S_R01_And.ap) S_R01_And.ah) (fun y => fixR Tryz.prog S_R01_And.plan S_R01_And.ah.length y) =
    (m_R01_And [.l v0]).go br (fun _ => none) S_R01_And.fin := by
  rw [← callF_eq]; kernel_rfl
theorem e_R01_And : EOK Tryz.prog 99 (gF S_R01_And m_R01_And) :=
  eokTold mixed named x175 (loopsOK_list rids lk_R01_And_99_3) 60 S_R01_And m_R01_And (by
    intro us v h; unfold m_R01_And at h; split at h
    · rename_i v0; exact q_R01_And v0
    · cases h) false
noncomputable abbrev X176 : Ext := extT [(99, (gF S_R01_And m_R01_And))] X175
theorem x176 : XOK Tryz.prog X176 := xok1 x175 e_R01_And

def L_R01_Or : FuncId → Nat → Option (List Nat) := liveT [(100, 3, [0, 2, 3, 4]), (100, 1000003, [2, 3]), (100, 2000003, [2])]
def M_R01_Or : FuncId → Bool := fun _ => false
noncomputable def rd_R01_Or_100_3 : List U → Rt
  | [.l v0, .b v1, .i v2, .i v3, .i v4, .s v5] =>
    (.test (decide (v2 < ln v0))
    (.test (inR v2 (ln v0))
    (.test (cI (el v0 v2) 0 == (1 : Int) && (cI (el v0 v2) 1 == (1 : Int) && (ByteArray.toList (cS (el v0 v2) 2) == [] && true)))
    (.stop 0 [.i ((1 : Int)), .i ((1 : Int)), .s ({ data := #[] })])
    (.test v1
    (.test (inR v2 (ln v0))
    (.next [.l v0, .b (cI (el v0 v2) 0 == (1 : Int) && (cI (el v0 v2) 1 == (0 : Int) && (ByteArray.toList (cS (el v0 v2) 2) == [] && true))), .i (w64 (v2 + (1 : Int))), .i v3, .i v4, .s v5])
    .fail)
    (.next [.l v0, .b false, .i (w64 (v2 + (1 : Int))), .i v3, .i v4, .s v5])))
    .fail)
    (.stop 1 [.b v1, .i v3, .i v4, .s v5]))
  | _ => .fail
def sp_R01_Or_100_3 : LSp := ⟨30, ⟨[(0, .one (.l 56)), (2, .one (.ptr 0 0)), (3, .one (.b)), (4, .one (.i .i64))], [.box 56 [.one (.i .i64), .one (.i .i64), .one (.s)]]⟩, [(.ret, ⟨[(2, .one (.ptr 0 0))], [.box 56 [.one (.i .i64), .one (.i .i64), .one (.s)]]⟩), (.exit 0, ⟨[(2, .one (.ptr 0 0)), (3, .one (.b))], [.box 56 [.one (.i .i64), .one (.i .i64), .one (.s)]]⟩)]⟩
set_option maxRecDepth 100000 in
theorem rq_R01_Or_100_3 (v0 : List (List PV)) (v1 : Bool) (v2 : Int) (v3 : Int) (v4 : Int) (v5 : ByteArray) : runK br Tryz.prog (callK br Tryz.prog X176 M_R01_Or L_R01_Or (lsT []) 40) M_R01_Or (lsT [] 100 0) 40 0 (L_R01_Or 100) (bodyOf Tryz.prog 100 3) (sp_R01_Or_100_3.s.ts sp_R01_Or_100_3.n [.l v0, .b v1, .i v2, .i v3, .i v4, .s v5]) (sp_R01_Or_100_3.s.h [.l v0, .b v1, .i v2, .i v3, .i v4, .s v5]) (idc Tryz.prog 0 (L_R01_Or 100) 3) =
    (rd_R01_Or_100_3 [.l v0, .b v1, .i v2, .i v3, .i v4, .s v5]).go br (fun us' => some (.normal, sp_R01_Or_100_3.s.ts sp_R01_Or_100_3.n us', sp_R01_Or_100_3.s.h us')) sp_R01_Or_100_3.fin := by
  rw [← callF_eq, ← runF_eq]; kernel_rfl
theorem lo_R01_Or_100_3 {R : Type} : LoopTells Tryz.prog X176 M_R01_Or L_R01_Or 0 (L_R01_Or 100) (bodyOf Tryz.prog 100 3) (gL (R := R) sp_R01_Or_100_3 rd_R01_Or_100_3 br) :=
  loopTold (callK_ev (loopsOK_list rids noneIn) 40) (lsokIn (loopsOK_list rids noneIn) 100 0 3) (by kernel_rfl) sp_R01_Or_100_3 rd_R01_Or_100_3 rfl (by kernel_rfl) (by
    intro us v h; unfold rd_R01_Or_100_3 at h; split at h
    · rename_i v0 v1 v2 v3 v4 v5; exact rq_R01_Or_100_3 v0 v1 v2 v3 v4 v5
    · cases h)
noncomputable abbrev ll_R01_Or_100_3 {R : Type} : List (Nat × Nat × Nat × Smy R) := (100, 0, 3, gL sp_R01_Or_100_3 rd_R01_Or_100_3 br) :: []
theorem lk_R01_Or_100_3 {R : Type} : ∀ e ∈ ll_R01_Or_100_3 (R := R), LoopTells Tryz.prog X176 M_R01_Or L_R01_Or e.2.1 (L_R01_Or e.1) (bodyOf Tryz.prog e.1 e.2.2.1) e.2.2.2 := List.forall_mem_cons.2 ⟨lo_R01_Or_100_3, noneIn⟩
def S_R01_Or : FSp := ⟨[.one (.l 56)], [], [], [([.agg [.i .i64, .i .i64, .s]], [])]⟩
noncomputable def m_R01_Or : List U → Rt
  | [.l v0] =>
    (let r0 : Rs := (lres rd_R01_Or_100_3 [U.l v0, U.b true, U.i (0 : Int), U.i (0 : Int), U.i (0 : Int), U.s { data := #[] }])
    (.test (ok r0 0)
    (.stop 0 [.i (uI (out r0 0) 0), .i (uI (out r0 0) 1), .s (uS (out r0 0) 2)])
    (.test (ok r0 1)
    (.test (uB (out r0 1) 0)
    (.stop 0 [.i ((1 : Int)), .i ((0 : Int)), .s ({ data := #[] })])
    (.stop 0 [.i ((0 : Int)), .i ((0 : Int)), .s ({ data := #[] })]))
    .fail)))
  | _ => .fail
set_option maxRecDepth 100000 in
theorem q_R01_Or (v0 : List (List PV)) : callK br Tryz.prog X176 M_R01_Or L_R01_Or (lsT ll_R01_Or_100_3) 60 100 (encs [.l v0] 0 S_R01_Or.ap) (encH [.l v0] (ws S_R01_Or.ap) S_R01_Or.ah) (fun y => fixR Tryz.prog S_R01_Or.plan S_R01_Or.ah.length y) =
    (m_R01_Or [.l v0]).go br (fun _ => none) S_R01_Or.fin := by
  rw [← callF_eq]; kernel_rfl
theorem e_R01_Or : EOK Tryz.prog 100 (gF S_R01_Or m_R01_Or) :=
  eokTold mixed named x176 (loopsOK_list rids lk_R01_Or_100_3) 60 S_R01_Or m_R01_Or (by
    intro us v h; unfold m_R01_Or at h; split at h
    · rename_i v0; exact q_R01_Or v0
    · cases h) false
noncomputable abbrev X177 : Ext := extT [(100, (gF S_R01_Or m_R01_Or))] X176
theorem x177 : XOK Tryz.prog X177 := xok1 x176 e_R01_Or

def L_R01_Not : FuncId → Nat → Option (List Nat) := liveT []
def M_R01_Not : FuncId → Bool := fun _ => false
def S_R01_Not : FSp := ⟨[.agg [.i .i64, .i .i64, .s]], [], [], [([.agg [.i .i64, .i .i64, .s]], [])]⟩
noncomputable def m_R01_Not : List U → Rt
  | [.i v0, .i v1, .s v2] =>
    (.test (v0 == (1 : Int) && (v1 == (1 : Int) && (ByteArray.toList v2 == [] && true)))
    (.stop 0 [.i ((1 : Int)), .i ((0 : Int)), .s ({ data := #[] })])
    (.test (v0 == (1 : Int) && (v1 == (0 : Int) && (ByteArray.toList v2 == [] && true)))
    (.stop 0 [.i ((1 : Int)), .i ((1 : Int)), .s ({ data := #[] })])
    (.stop 0 [.i ((0 : Int)), .i ((0 : Int)), .s ({ data := #[] })])))
  | _ => .fail
set_option maxRecDepth 100000 in
theorem q_R01_Not (v0 : Int) (v1 : Int) (v2 : ByteArray) : callK br Tryz.prog X177 M_R01_Not L_R01_Not (lsT []) 60 101 (encs [.i v0, .i v1, .s v2] 0 S_R01_Not.ap) (encH [.i v0, .i v1, .s v2] (ws S_R01_Not.ap) S_R01_Not.ah) (fun y => fixR Tryz.prog S_R01_Not.plan S_R01_Not.ah.length y) =
    (m_R01_Not [.i v0, .i v1, .s v2]).go br (fun _ => none) S_R01_Not.fin := by
  rw [← callF_eq]; kernel_rfl
theorem e_R01_Not : EOK Tryz.prog 101 (gF S_R01_Not m_R01_Not) :=
  eokTold mixed named x177 (loopsOK_list rids noneIn) 60 S_R01_Not m_R01_Not (by
    intro us v h; unfold m_R01_Not at h; split at h
    · rename_i v0 v1 v2; exact q_R01_Not v0 v1 v2
    · cases h) false
noncomputable abbrev X178 : Ext := extT [(101, (gF S_R01_Not m_R01_Not))] X177
theorem x178 : XOK Tryz.prog X178 := xok1 x177 e_R01_Not

def L_R03_do : FuncId → Nat → Option (List Nat) := liveT []
def M_R03_do : FuncId → Bool := fun _ => false
def S_R03_do : FSp := ⟨[.one (.i .i64), .agg [.i .i64, .i .i64, .s], .agg [.i .i64, .i .i64, .s]], [], [], [([.agg [.i .i64, .i .i64, .s], .one (.b)], [])]⟩
noncomputable def m_R03_do : List U → Rt
  | [.i v0, .i v1, .i v2, .s v3, .i v4, .i v5, .s v6] =>
    (.test (v0 == (2 : Int))
    (let r0 : Rs := (Rt.res (m_R01_Add [U.i v1, U.i v2, U.s v3, U.i v4, U.i v5, U.s v6]))
    (.test (ok r0 0)
    (.stop 0 [.i (uI (out r0 0) 0), .i (uI (out r0 0) 1), .s (uS (out r0 0) 2), .b (uB (out r0 0) 3)])
    .fail))
    (.test (v0 == (3 : Int))
    (let r1 : Rs := (Rt.res (m_R01_Sub [U.i v1, U.i v2, U.s v3, U.i v4, U.i v5, U.s v6]))
    (.test (ok r1 0)
    (.stop 0 [.i (uI (out r1 0) 0), .i (uI (out r1 0) 1), .s (uS (out r1 0) 2), .b (uB (out r1 0) 3)])
    .fail))
    (.test (v0 == (4 : Int))
    (let r2 : Rs := (Rt.res (m_R01_Mul [U.i v1, U.i v2, U.s v3, U.i v4, U.i v5, U.s v6]))
    (.test (ok r2 0)
    (.stop 0 [.i (uI (out r2 0) 0), .i (uI (out r2 0) 1), .s (uS (out r2 0) 2), .b (uB (out r2 0) 3)])
    .fail))
    (.test (v0 == (7 : Int))
    (let r3 : Rs := (Rt.res (m_R01_And [U.l [[pI v1, pI v2, pS v3], [pI v4, pI v5, pS v6]]]))
    (.test (ok r3 0)
    (.stop 0 [.i (uI (out r3 0) 0), .i (uI (out r3 0) 1), .s (uS (out r3 0) 2), .b true])
    .fail))
    (.test (v0 == (8 : Int))
    (let r4 : Rs := (Rt.res (m_R01_Or [U.l [[pI v1, pI v2, pS v3], [pI v4, pI v5, pS v6]]]))
    (.test (ok r4 0)
    (.stop 0 [.i (uI (out r4 0) 0), .i (uI (out r4 0) 1), .s (uS (out r4 0) 2), .b true])
    .fail))
    (.test (v0 == (9 : Int))
    (let r5 : Rs := (Rt.res (m_R01_Not [U.i v4, U.i v5, U.s v6]))
    (.test (ok r5 0)
    (.stop 0 [.i (uI (out r5 0) 0), .i (uI (out r5 0) 1), .s (uS (out r5 0) 2), .b true])
    .fail))
    (.test (v0 == (10 : Int))
    (let r6 : Rs := (Rt.res (m_R01_Truth [U.b (v4 == (0 : Int))]))
    (.test (ok r6 0)
    (.stop 0 [.i (uI (out r6 0) 0), .i (uI (out r6 0) 1), .s (uS (out r6 0) 2), .b true])
    .fail))
    (let r7 : Rs := (Rt.res (m_R01_Nulls [U.i v1, U.i v2, U.s v3, U.i v4, U.i v5, U.s v6]))
    (.test (ok r7 0)
    (.test (uB (out r7 0) 0)
    (.stop 0 [.i ((0 : Int)), .i ((0 : Int)), .s ({ data := #[] }), .b true])
    (.test (v0 == (5 : Int))
    (let r8 : Rs := (Rt.res (m_R01_Compare [U.i v1, U.i v2, U.s v3, U.i v4, U.i v5, U.s v6]))
    (.test (ok r8 0)
    (let r9 : Rs := (Rt.res (m_R01_Truth [U.b (uI (out r8 0) 0 == (0 : Int))]))
    (.test (ok r9 0)
    (.stop 0 [.i (uI (out r9 0) 0), .i (uI (out r9 0) 1), .s (uS (out r9 0) 2), .b true])
    .fail))
    .fail))
    (let r10 : Rs := (Rt.res (m_R01_Compare [U.i v1, U.i v2, U.s v3, U.i v4, U.i v5, U.s v6]))
    (.test (ok r10 0)
    (let r11 : Rs := (Rt.res (m_R01_Truth [U.b (decide (uI (out r10 0) 0 < (0 : Int)))]))
    (.test (ok r11 0)
    (.stop 0 [.i (uI (out r11 0) 0), .i (uI (out r11 0) 1), .s (uS (out r11 0) 2), .b true])
    .fail))
    .fail))))
    .fail)))))))))
  | _ => .fail
set_option maxRecDepth 100000 in
theorem q_R03_do (v0 : Int) (v1 : Int) (v2 : Int) (v3 : ByteArray) (v4 : Int) (v5 : Int) (v6 : ByteArray) : callK br Tryz.prog X178 M_R03_do L_R03_do (lsT []) 60 85 (encs [.i v0, .i v1, .i v2, .s v3, .i v4, .i v5, .s v6] 0 S_R03_do.ap) (encH [.i v0, .i v1, .i v2, .s v3, .i v4, .i v5, .s v6] (ws S_R03_do.ap) S_R03_do.ah) (fun y => fixR Tryz.prog S_R03_do.plan S_R03_do.ah.length y) =
    (m_R03_do [.i v0, .i v1, .i v2, .s v3, .i v4, .i v5, .s v6]).go br (fun _ => none) S_R03_do.fin := by
  rw [← callF_eq]; kernel_rfl
theorem e_R03_do : EOK Tryz.prog 85 (gF S_R03_do m_R03_do) :=
  eokTold mixed named x178 (loopsOK_list rids noneIn) 60 S_R03_do m_R03_do (by
    intro us v h; unfold m_R03_do at h; split at h
    · rename_i v0 v1 v2 v3 v4 v5 v6; exact q_R03_do v0 v1 v2 v3 v4 v5 v6
    · cases h) false
noncomputable abbrev X179 : Ext := extT [(85, (gF S_R03_do m_R03_do))] X178
theorem x179 : XOK Tryz.prog X179 := xok1 x178 e_R03_do

def L_R03_Eval : FuncId → Nat → Option (List Nat) := liveT [(68, 6, [0, 1, 4, 6, 7, 8]), (68, 1000006, [4, 6, 7]), (68, 2000006, [4, 5])]
def M_R03_Eval : FuncId → Bool := fun _ => false
noncomputable def rd_R03_Eval_68_6 : List U → Rt
  | [.l v0, .l v1, .i v2, .i v3, .i v4, .s v5, .i v6, .i v7, .s v8, .l v9] =>
    (.test (decide (v2 < ln v0))
    (.test (inR v2 (ln v0))
    (let r0 : Rs := (Rt.res (m_R03_Takes [U.i (cI (el v0 v2) 0)]))
    (.test (ok r0 0)
    (.test (decide (uI (out r0 0) 0 < (0 : Int)))
    (.stop 0 [.i ((30 : Int)), .i v6, .i v7, .s v8])
    (.test (decide (ln v9 < uI (out r0 0) 0))
    (.stop 0 [.i ((30 : Int)), .i v6, .i v7, .s v8])
    (.test (cI (el v0 v2) 0 == (0 : Int))
    (.test (decide (cI (el v0 v2) 1 < (0 : Int)))
    (.stop 0 [.i ((30 : Int)), .i v6, .i v7, .s v8])
    (.test (decide (cI (el v0 v2) 1 ≥ ln v1))
    (.stop 0 [.i ((30 : Int)), .i v6, .i v7, .s v8])
    (.test (inR (cI (el v0 v2) 1) (ln v1))
    (.test (decide ((List.length v9 + 1) * 32 ≤ 140737488355328))
    (.next [.l v0, .l v1, .i (w64 (v2 + (1 : Int))), .i v3, .i v4, .s v5, .i v6, .i v7, .s v8, .l (v9 ++ [[pI (cI (el v1 (cI (el v0 v2) 1)) 0), pI (cI (el v1 (cI (el v0 v2) 1)) 1), pS (cS (el v1 (cI (el v0 v2) 1)) 2)]])])
    .fail)
    .fail)))
    (.test (cI (el v0 v2) 0 == (1 : Int))
    (let r1 : Rs := (Rt.res (m_R01_May [U.i (cI (el v0 v2) 2), U.i (cI (el v0 v2) 3), U.s (cS (el v0 v2) 4)]))
    (.test (ok r1 0)
    (.test (!uB (out r1 0) 0)
    (.stop 0 [.i ((30 : Int)), .i v6, .i v7, .s v8])
    (.test (decide ((List.length v9 + 1) * 32 ≤ 140737488355328))
    (.next [.l v0, .l v1, .i (w64 (v2 + (1 : Int))), .i v3, .i v4, .s v5, .i v6, .i v7, .s v8, .l (v9 ++ [[pI (cI (el v0 v2) 2), pI (cI (el v0 v2) 3), pS (cS (el v0 v2) 4)]])])
    .fail))
    .fail))
    (.test (inR (w64 (ln v9 - (1 : Int))) (ln v9))
    (.test (decide (Int.toNat (w64 (ln v9 - (1 : Int))) < List.length v9))
    (.test (decide (uI (out r0 0) 0 > (1 : Int)))
    (.test (inR (w64 (ln v9 - (2 : Int))) (ln v9))
    (.test (decide (Int.toNat (w64 (ln v9 - (2 : Int))) < List.length v9))
    (let r2 : Rs := (Rt.res (m_R03_Leaves [U.i (cI (el v0 v2) 0), U.i (cI (el v9 (w64 (ln v9 - (2 : Int)))) 0), U.i (cI (el v9 (w64 (ln v9 - (1 : Int)))) 0)]))
    (.test (ok r2 0)
    (.test (!uB (out r2 0) 1)
    (.stop 0 [.i ((30 : Int)), .i v6, .i v7, .s v8])
    (let r3 : Rs := (Rt.res (m_R03_do [U.i (cI (el v0 v2) 0), U.i (cI (el v9 (w64 (ln v9 - (2 : Int)))) 0), U.i (cI (el v9 (w64 (ln v9 - (2 : Int)))) 1), U.s (cS (el v9 (w64 (ln v9 - (2 : Int)))) 2), U.i (cI (el v9 (w64 (ln v9 - (1 : Int)))) 0), U.i (cI (el v9 (w64 (ln v9 - (1 : Int)))) 1), U.s (cS (el v9 (w64 (ln v9 - (1 : Int)))) 2)]))
    (.test (ok r3 0)
    (.test (!uB (out r3 0) 3)
    (.stop 0 [.i ((31 : Int)), .i v6, .i v7, .s v8])
    (.test (decide ((0 : Int) ≤ (0 : Int) ∧ (0 : Int) ≤ w64 (ln v9 - uI (out r0 0) 0) ∧ w64 (ln v9 - uI (out r0 0) 0) ≤ ln v9))
    (.test (decide (0 + (Int.toNat (w64 (ln v9 - uI (out r0 0) 0)) - 0) ≤ List.length v9))
    (.test (decide ((0 + List.length (List.take (Int.toNat (w64 (ln v9 - uI (out r0 0) 0)) - 0) v9)) * 32 ≤ 140737488355328))
    (.test (decide ((List.length ([] ++ List.take (Int.toNat (w64 (ln v9 - uI (out r0 0) 0)) - 0) v9) + 1) * 32 ≤ 140737488355328))
    (.next [.l v0, .l v1, .i (w64 (v2 + (1 : Int))), .i v3, .i v4, .s v5, .i v6, .i v7, .s v8, .l ([] ++ List.take (Int.toNat (w64 (ln v9 - uI (out r0 0) 0)) - 0) v9 ++ [[pI (uI (out r3 0) 0), pI (uI (out r3 0) 1), pS (uS (out r3 0) 2)]])])
    .fail)
    .fail)
    .fail)
    .fail))
    .fail)))
    .fail))
    .fail)
    .fail)
    (let r4 : Rs := (Rt.res (m_R03_Leaves [U.i (cI (el v0 v2) 0), U.i v6, U.i (cI (el v9 (w64 (ln v9 - (1 : Int)))) 0)]))
    (.test (ok r4 0)
    (.test (!uB (out r4 0) 1)
    (.stop 0 [.i ((30 : Int)), .i v6, .i v7, .s v8])
    (let r5 : Rs := (Rt.res (m_R03_do [U.i (cI (el v0 v2) 0), U.i v6, U.i v7, U.s v8, U.i (cI (el v9 (w64 (ln v9 - (1 : Int)))) 0), U.i (cI (el v9 (w64 (ln v9 - (1 : Int)))) 1), U.s (cS (el v9 (w64 (ln v9 - (1 : Int)))) 2)]))
    (.test (ok r5 0)
    (.test (!uB (out r5 0) 3)
    (.stop 0 [.i ((31 : Int)), .i v6, .i v7, .s v8])
    (.test (decide ((0 : Int) ≤ (0 : Int) ∧ (0 : Int) ≤ w64 (ln v9 - uI (out r0 0) 0) ∧ w64 (ln v9 - uI (out r0 0) 0) ≤ ln v9))
    (.test (decide (0 + (Int.toNat (w64 (ln v9 - uI (out r0 0) 0)) - 0) ≤ List.length v9))
    (.test (decide ((0 + List.length (List.take (Int.toNat (w64 (ln v9 - uI (out r0 0) 0)) - 0) v9)) * 32 ≤ 140737488355328))
    (.test (decide ((List.length ([] ++ List.take (Int.toNat (w64 (ln v9 - uI (out r0 0) 0)) - 0) v9) + 1) * 32 ≤ 140737488355328))
    (.next [.l v0, .l v1, .i (w64 (v2 + (1 : Int))), .i v3, .i v4, .s v5, .i v6, .i v7, .s v8, .l ([] ++ List.take (Int.toNat (w64 (ln v9 - uI (out r0 0) 0)) - 0) v9 ++ [[pI (uI (out r5 0) 0), pI (uI (out r5 0) 1), pS (uS (out r5 0) 2)]])])
    .fail)
    .fail)
    .fail)
    .fail))
    .fail)))
    .fail)))
    .fail)
    .fail)))))
    .fail))
    .fail)
    (.stop 1 [.i v3, .i v4, .s v5, .i v6, .i v7, .s v8, .l v9]))
  | _ => .fail
def sp_R03_Eval_68_6 : LSp := ⟨137, ⟨[(0, .one (.l 58)), (1, .one (.l 56)), (4, .one (.ptr 0 0)), (6, .one (.ptr 1 0)), (7, .one (.all 2)), (8, .one (.i .i64))], [.box 56 [.one (.i .i64), .one (.i .i64), .one (.s)], .box 56 [.one (.i .i64), .one (.i .i64), .one (.s)], .arr 56 true]⟩, [(.ret, ⟨[(4, .one (.ptr 0 0)), (5, .one (.i .i64))], [.box 56 [.one (.i .i64), .one (.i .i64), .one (.s)]]⟩), (.exit 0, ⟨[(4, .one (.ptr 0 0)), (6, .one (.ptr 1 0)), (7, .one (.all 2))], [.box 56 [.one (.i .i64), .one (.i .i64), .one (.s)], .box 56 [.one (.i .i64), .one (.i .i64), .one (.s)], .arr 56 true]⟩)]⟩
set_option maxRecDepth 100000 in
theorem rq_R03_Eval_68_6 (v0 : List (List PV)) (v1 : List (List PV)) (v2 : Int) (v3 : Int) (v4 : Int) (v5 : ByteArray) (v6 : Int) (v7 : Int) (v8 : ByteArray) (v9 : List (List PV)) : runK br Tryz.prog (callK br Tryz.prog X179 M_R03_Eval L_R03_Eval (lsT []) 40) M_R03_Eval (lsT [] 68 0) 40 0 (L_R03_Eval 68) (bodyOf Tryz.prog 68 6) (sp_R03_Eval_68_6.s.ts sp_R03_Eval_68_6.n [.l v0, .l v1, .i v2, .i v3, .i v4, .s v5, .i v6, .i v7, .s v8, .l v9]) (sp_R03_Eval_68_6.s.h [.l v0, .l v1, .i v2, .i v3, .i v4, .s v5, .i v6, .i v7, .s v8, .l v9]) (idc Tryz.prog 0 (L_R03_Eval 68) 6) =
    (rd_R03_Eval_68_6 [.l v0, .l v1, .i v2, .i v3, .i v4, .s v5, .i v6, .i v7, .s v8, .l v9]).go br (fun us' => some (.normal, sp_R03_Eval_68_6.s.ts sp_R03_Eval_68_6.n us', sp_R03_Eval_68_6.s.h us')) sp_R03_Eval_68_6.fin := by
  rw [← callF_eq, ← runF_eq]; kernel_rfl
theorem lo_R03_Eval_68_6 {R : Type} : LoopTells Tryz.prog X179 M_R03_Eval L_R03_Eval 0 (L_R03_Eval 68) (bodyOf Tryz.prog 68 6) (gL (R := R) sp_R03_Eval_68_6 rd_R03_Eval_68_6 br) :=
  loopTold (callK_ev (loopsOK_list rids noneIn) 40) (lsokIn (loopsOK_list rids noneIn) 68 0 6) (by kernel_rfl) sp_R03_Eval_68_6 rd_R03_Eval_68_6 rfl (by kernel_rfl) (by
    intro us v h; unfold rd_R03_Eval_68_6 at h; split at h
    · rename_i v0 v1 v2 v3 v4 v5 v6 v7 v8 v9; exact rq_R03_Eval_68_6 v0 v1 v2 v3 v4 v5 v6 v7 v8 v9
    · cases h)
noncomputable abbrev ll_R03_Eval_68_6 {R : Type} : List (Nat × Nat × Nat × Smy R) := (68, 0, 6, gL sp_R03_Eval_68_6 rd_R03_Eval_68_6 br) :: []
theorem lk_R03_Eval_68_6 {R : Type} : ∀ e ∈ ll_R03_Eval_68_6 (R := R), LoopTells Tryz.prog X179 M_R03_Eval L_R03_Eval e.2.1 (L_R03_Eval e.1) (bodyOf Tryz.prog e.1 e.2.2.1) e.2.2.2 := List.forall_mem_cons.2 ⟨lo_R03_Eval_68_6, noneIn⟩
def S_R03_Eval : FSp := ⟨[.one (.l 58), .one (.l 56)], [], [], [([.agg [.i .i64, .i .i64, .s], .one (.i .i64)], [])]⟩
noncomputable def m_R03_Eval : List U → Rt
  | [.l v0, .l v1] =>
    (.test (decide (ln v0 > (100 : Int)))
    (.stop 0 [.i ((0 : Int)), .i ((0 : Int)), .s ({ data := #[] }), .i ((1 : Int))])
    (let r0 : Rs := (lres rd_R03_Eval_68_6 [U.l v0, U.l v1, U.i (0 : Int), U.i (0 : Int), U.i (0 : Int), U.s { data := #[] }, U.i (0 : Int), U.i (0 : Int), U.s { data := #[] }, U.l []])
    (.test (ok r0 0)
    (.stop 0 [.i (uI (out r0 0) 1), .i (uI (out r0 0) 2), .s (uS (out r0 0) 3), .i (uI (out r0 0) 0)])
    (.test (ok r0 1)
    (.test (ln (uL (out r0 1) 6) != (1 : Int))
    (.stop 0 [.i (uI (out r0 1) 3), .i (uI (out r0 1) 4), .s (uS (out r0 1) 5), .i ((30 : Int))])
    (.test (inR (0 : Int) (ln (uL (out r0 1) 6)))
    (.test (decide (0 < List.length (uL (out r0 1) 6)))
    (.stop 0 [.i (cI (List.getD (uL (out r0 1) 6) 0 []) 0), .i (cI (List.getD (uL (out r0 1) 6) 0 []) 1), .s (cS (List.getD (uL (out r0 1) 6) 0 []) 2), .i ((0 : Int))])
    .fail)
    .fail))
    .fail))))
  | _ => .fail
set_option maxRecDepth 100000 in
theorem q_R03_Eval (v0 : List (List PV)) (v1 : List (List PV)) : callK br Tryz.prog X179 M_R03_Eval L_R03_Eval (lsT ll_R03_Eval_68_6) 60 68 (encs [.l v0, .l v1] 0 S_R03_Eval.ap) (encH [.l v0, .l v1] (ws S_R03_Eval.ap) S_R03_Eval.ah) (fun y => fixR Tryz.prog S_R03_Eval.plan S_R03_Eval.ah.length y) =
    (m_R03_Eval [.l v0, .l v1]).go br (fun _ => none) S_R03_Eval.fin := by
  rw [← callF_eq]; kernel_rfl
theorem e_R03_Eval : EOK Tryz.prog 68 (gF S_R03_Eval m_R03_Eval) :=
  eokTold mixed named x179 (loopsOK_list rids lk_R03_Eval_68_6) 60 S_R03_Eval m_R03_Eval (by
    intro us v h; unfold m_R03_Eval at h; split at h
    · rename_i v0 v1; exact q_R03_Eval v0 v1
    · cases h) false
noncomputable abbrev X180 : Ext := extT [(68, (gF S_R03_Eval m_R03_Eval))] X179
theorem x180 : XOK Tryz.prog X180 := xok1 x179 e_R03_Eval

def L_R03_True : FuncId → Nat → Option (List Nat) := liveT []
def M_R03_True : FuncId → Bool := fun _ => false
def S_R03_True : FSp := ⟨[.one (.l 58), .one (.l 56)], [], [], [([.one (.b), .one (.i .i64)], [])]⟩
noncomputable def m_R03_True : List U → Rt
  | [.l v0, .l v1] =>
    (.test (ln v0 == (0 : Int))
    (.stop 0 [.b true, .i ((0 : Int))])
    (let r0 : Rs := (Rt.res (m_R03_Eval [U.l v0, U.l v1]))
    (.test (ok r0 0)
    (.test (uI (out r0 0) 3 == (0 : Int))
    (.stop 0 [.b (uI (out r0 0) 0 == (1 : Int) && (uI (out r0 0) 1 == (1 : Int) && (ByteArray.toList (uS (out r0 0) 2) == [] && true))), .i (uI (out r0 0) 3)])
    (.stop 0 [.b false, .i (uI (out r0 0) 3)]))
    .fail)))
  | _ => .fail
set_option maxRecDepth 100000 in
theorem q_R03_True (v0 : List (List PV)) (v1 : List (List PV)) : callK br Tryz.prog X180 M_R03_True L_R03_True (lsT []) 60 44 (encs [.l v0, .l v1] 0 S_R03_True.ap) (encH [.l v0, .l v1] (ws S_R03_True.ap) S_R03_True.ah) (fun y => fixR Tryz.prog S_R03_True.plan S_R03_True.ah.length y) =
    (m_R03_True [.l v0, .l v1]).go br (fun _ => none) S_R03_True.fin := by
  rw [← callF_eq]; kernel_rfl
theorem e_R03_True : EOK Tryz.prog 44 (gF S_R03_True m_R03_True) :=
  eokTold mixed named x180 (loopsOK_list rids noneIn) 60 S_R03_True m_R03_True (by
    intro us v h; unfold m_R03_True at h; split at h
    · rename_i v0 v1; exact q_R03_True v0 v1
    · cases h) false
noncomputable abbrev X181 : Ext := extT [(44, (gF S_R03_True m_R03_True))] X180
theorem x181 : XOK Tryz.prog X181 := xok1 x180 e_R03_True

def L_R10_Where : FuncId → Nat → Option (List Nat) := liveT [(12, 3, [1, 2, 6, 7]), (12, 1000003, [6]), (12, 2000003, [4, 5])]
def M_R10_Where : FuncId → Bool := fun _ => false
noncomputable def rd_R10_Where_12_3 : List U → Rt
  | [.l v0, .i v1, .s v2, .s v3, .s v4, .i v5, .i v6, .l v7, .l v8, .b v9, .l v10, .l v11] =>
    (.test (decide (v1 < ln v0))
    (let r0 : Rs := (Rt.res (m_R05_May [U.l v0]))
    (.test (ok r0 0)
    (.test (uB (out r0 0) 0)
    (.test (inR v1 (ln v0))
    (let r1 : Rs := (Rt.res (m_R03_True [U.l v7, U.l (cL (el v0 v1) 0)]))
    (.test (ok r1 0)
    (.test (uI (out r1 0) 1 != (0 : Int))
    (.stop 0 [.i (uI (out r1 0) 1)])
    (.test (uB (out r1 0) 0)
    (.test (inR v1 (ln v0))
    (.test (decide ((List.length v11 + 1) * 32 ≤ 140737488355328))
    (.next [.l v0, .i (w64 (v1 + (1 : Int))), .s v2, .s v3, .s v4, .i v5, .i v6, .l v7, .l v8, .b v9, .l v10, .l (v11 ++ [[PV.lst 56 (cL (el v0 v1) 0), pI (cI (el v0 v1) 1)]])])
    .fail)
    .fail)
    (.next [.l v0, .i (w64 (v1 + (1 : Int))), .s v2, .s v3, .s v4, .i v5, .i v6, .l v7, .l v8, .b v9, .l v10, .l v11])))
    .fail))
    .fail)
    (.stop 1 [.l v11]))
    .fail))
    (.stop 1 [.l v11]))
  | _ => .fail
def sp_R10_Where_12_3 : LSp := ⟨44, ⟨[(1, .one (.l 54)), (2, .one (.ptr 0 0)), (6, .one (.all 1)), (7, .one (.i .i64))], [.box 28 [.one (.s), .one (.s), .one (.s), .one (.i .i64), .one (.i .i64), .one (.l 58), .one (.l 3), .one (.b), .one (.l 165)], .arr 54 true]⟩, [(.ret, ⟨[(4, .one (.nils)), (5, .one (.i .i64))], []⟩), (.exit 0, ⟨[(6, .one (.all 0))], [.arr 54 true]⟩)]⟩
set_option maxRecDepth 100000 in
theorem rq_R10_Where_12_3 (v0 : List (List PV)) (v1 : Int) (v2 : ByteArray) (v3 : ByteArray) (v4 : ByteArray) (v5 : Int) (v6 : Int) (v7 : List (List PV)) (v8 : List (List PV)) (v9 : Bool) (v10 : List (List PV)) (v11 : List (List PV)) : runK br Tryz.prog (callK br Tryz.prog X181 M_R10_Where L_R10_Where (lsT []) 40) M_R10_Where (lsT [] 12 0) 40 0 (L_R10_Where 12) (bodyOf Tryz.prog 12 3) (sp_R10_Where_12_3.s.ts sp_R10_Where_12_3.n [.l v0, .i v1, .s v2, .s v3, .s v4, .i v5, .i v6, .l v7, .l v8, .b v9, .l v10, .l v11]) (sp_R10_Where_12_3.s.h [.l v0, .i v1, .s v2, .s v3, .s v4, .i v5, .i v6, .l v7, .l v8, .b v9, .l v10, .l v11]) (idc Tryz.prog 0 (L_R10_Where 12) 3) =
    (rd_R10_Where_12_3 [.l v0, .i v1, .s v2, .s v3, .s v4, .i v5, .i v6, .l v7, .l v8, .b v9, .l v10, .l v11]).go br (fun us' => some (.normal, sp_R10_Where_12_3.s.ts sp_R10_Where_12_3.n us', sp_R10_Where_12_3.s.h us')) sp_R10_Where_12_3.fin := by
  rw [← callF_eq, ← runF_eq]; kernel_rfl
theorem lo_R10_Where_12_3 {R : Type} : LoopTells Tryz.prog X181 M_R10_Where L_R10_Where 0 (L_R10_Where 12) (bodyOf Tryz.prog 12 3) (gL (R := R) sp_R10_Where_12_3 rd_R10_Where_12_3 br) :=
  loopTold (callK_ev (loopsOK_list rids noneIn) 40) (lsokIn (loopsOK_list rids noneIn) 12 0 3) (by kernel_rfl) sp_R10_Where_12_3 rd_R10_Where_12_3 rfl (by kernel_rfl) (by
    intro us v h; unfold rd_R10_Where_12_3 at h; split at h
    · rename_i v0 v1 v2 v3 v4 v5 v6 v7 v8 v9 v10 v11; exact rq_R10_Where_12_3 v0 v1 v2 v3 v4 v5 v6 v7 v8 v9 v10 v11
    · cases h)
noncomputable abbrev ll_R10_Where_12_3 {R : Type} : List (Nat × Nat × Nat × Smy R) := (12, 0, 3, gL sp_R10_Where_12_3 rd_R10_Where_12_3 br) :: []
theorem lk_R10_Where_12_3 {R : Type} : ∀ e ∈ ll_R10_Where_12_3 (R := R), LoopTells Tryz.prog X181 M_R10_Where L_R10_Where e.2.1 (L_R10_Where e.1) (bodyOf Tryz.prog e.1 e.2.2.1) e.2.2.2 := List.forall_mem_cons.2 ⟨lo_R10_Where_12_3, noneIn⟩
def S_R10_Where : FSp := ⟨[.agg [.s, .s, .s, .i .i64, .i .i64, .l 58, .l 3, .b, .l 165], .one (.l 54)], [], [109000000], [([.one (.all 0), .one (.i .i64)], [.arr 54 true])]⟩
noncomputable def m_R10_Where : List U → Rt
  | [.s v0, .s v1, .s v2, .i v3, .i v4, .l v5, .l v6, .b v7, .l v8, .l v9] =>
    (let r0 : Rs := (lres rd_R10_Where_12_3 [U.l v9, U.i (0 : Int), U.s v0, U.s v1, U.s v2, U.i v3, U.i v4, U.l v5, U.l v6, U.b v7, U.l v8, U.l []])
    (.test (ok r0 0)
    (.stop 0 [.i (uI (out r0 0) 0), .l []])
    (.test (ok r0 1)
    (.stop 0 [.i ((0 : Int)), .l (uL (out r0 1) 0)])
    .fail)))
  | _ => .fail
set_option maxRecDepth 100000 in
theorem q_R10_Where (v0 : ByteArray) (v1 : ByteArray) (v2 : ByteArray) (v3 : Int) (v4 : Int) (v5 : List (List PV)) (v6 : List (List PV)) (v7 : Bool) (v8 : List (List PV)) (v9 : List (List PV)) : callK br Tryz.prog X181 M_R10_Where L_R10_Where (lsT ll_R10_Where_12_3) 60 12 (encs [.s v0, .s v1, .s v2, .i v3, .i v4, .l v5, .l v6, .b v7, .l v8, .l v9] 0 S_R10_Where.ap) (encH [.s v0, .s v1, .s v2, .i v3, .i v4, .l v5, .l v6, .b v7, .l v8, .l v9] (ws S_R10_Where.ap) S_R10_Where.ah) (fun y => fixR Tryz.prog S_R10_Where.plan S_R10_Where.ah.length y) =
    (m_R10_Where [.s v0, .s v1, .s v2, .i v3, .i v4, .l v5, .l v6, .b v7, .l v8, .l v9]).go br (fun _ => none) S_R10_Where.fin := by
  rw [← callF_eq]; kernel_rfl
theorem e_R10_Where : EOK Tryz.prog 12 (gF S_R10_Where m_R10_Where) :=
  eokTold mixed named x181 (loopsOK_list rids lk_R10_Where_12_3) 60 S_R10_Where m_R10_Where (by
    intro us v h; unfold m_R10_Where at h; split at h
    · rename_i v0 v1 v2 v3 v4 v5 v6 v7 v8 v9; exact q_R10_Where v0 v1 v2 v3 v4 v5 v6 v7 v8 v9
    · cases h) false
noncomputable abbrev X182 : Ext := extT [(12, (gF S_R10_Where m_R10_Where))] X181
theorem x182 : XOK Tryz.prog X182 := xok1 x181 e_R10_Where

def L_R04_Pick : FuncId → Nat → Option (List Nat) := liveT [(47, 3, [0, 1, 6, 7]), (47, 1000003, [6]), (47, 2000003, [4, 5])]
def M_R04_Pick : FuncId → Bool := fun _ => false
noncomputable def rd_R04_Pick_47_3 : List U → Rt
  | [.l v0, .l v1, .i v2, .l v3] =>
    (.test (decide (v2 < ln v1))
    (.test (inR v2 (ln v1))
    (.test (decide (cI (el v1 v2) 0 < (0 : Int)))
    (.stop 0 [.b false])
    (.test (inR v2 (ln v1))
    (.test (decide (cI (el v1 v2) 0 ≥ ln v0))
    (.stop 0 [.b false])
    (.test (inR v2 (ln v1))
    (.test (inR (cI (el v1 v2) 0) (ln v0))
    (.test (decide ((List.length v3 + 1) * 32 ≤ 140737488355328))
    (.next [.l v0, .l v1, .i (w64 (v2 + (1 : Int))), .l (v3 ++ [[pI (cI (el v0 (cI (el v1 v2) 0)) 0), pI (cI (el v0 (cI (el v1 v2) 0)) 1), pS (cS (el v0 (cI (el v1 v2) 0)) 2)]])])
    .fail)
    .fail)
    .fail))
    .fail))
    .fail)
    (.stop 1 [.l v3]))
  | _ => .fail
def sp_R04_Pick_47_3 : LSp := ⟨40, ⟨[(0, .one (.l 56)), (1, .one (.l 3)), (6, .one (.all 0)), (7, .one (.i .i64))], [.arr 56 true]⟩, [(.ret, ⟨[(4, .one (.nils)), (5, .one (.b))], []⟩), (.exit 0, ⟨[(6, .one (.all 0))], [.arr 56 true]⟩)]⟩
set_option maxRecDepth 100000 in
theorem rq_R04_Pick_47_3 (v0 : List (List PV)) (v1 : List (List PV)) (v2 : Int) (v3 : List (List PV)) : runK br Tryz.prog (callK br Tryz.prog X182 M_R04_Pick L_R04_Pick (lsT []) 40) M_R04_Pick (lsT [] 47 0) 40 0 (L_R04_Pick 47) (bodyOf Tryz.prog 47 3) (sp_R04_Pick_47_3.s.ts sp_R04_Pick_47_3.n [.l v0, .l v1, .i v2, .l v3]) (sp_R04_Pick_47_3.s.h [.l v0, .l v1, .i v2, .l v3]) (idc Tryz.prog 0 (L_R04_Pick 47) 3) =
    (rd_R04_Pick_47_3 [.l v0, .l v1, .i v2, .l v3]).go br (fun us' => some (.normal, sp_R04_Pick_47_3.s.ts sp_R04_Pick_47_3.n us', sp_R04_Pick_47_3.s.h us')) sp_R04_Pick_47_3.fin := by
  rw [← callF_eq, ← runF_eq]; kernel_rfl
theorem lo_R04_Pick_47_3 {R : Type} : LoopTells Tryz.prog X182 M_R04_Pick L_R04_Pick 0 (L_R04_Pick 47) (bodyOf Tryz.prog 47 3) (gL (R := R) sp_R04_Pick_47_3 rd_R04_Pick_47_3 br) :=
  loopTold (callK_ev (loopsOK_list rids noneIn) 40) (lsokIn (loopsOK_list rids noneIn) 47 0 3) (by kernel_rfl) sp_R04_Pick_47_3 rd_R04_Pick_47_3 rfl (by kernel_rfl) (by
    intro us v h; unfold rd_R04_Pick_47_3 at h; split at h
    · rename_i v0 v1 v2 v3; exact rq_R04_Pick_47_3 v0 v1 v2 v3
    · cases h)
noncomputable abbrev ll_R04_Pick_47_3 {R : Type} : List (Nat × Nat × Nat × Smy R) := (47, 0, 3, gL sp_R04_Pick_47_3 rd_R04_Pick_47_3 br) :: []
theorem lk_R04_Pick_47_3 {R : Type} : ∀ e ∈ ll_R04_Pick_47_3 (R := R), LoopTells Tryz.prog X182 M_R04_Pick L_R04_Pick e.2.1 (L_R04_Pick e.1) (bodyOf Tryz.prog e.1 e.2.2.1) e.2.2.2 := List.forall_mem_cons.2 ⟨lo_R04_Pick_47_3, noneIn⟩
def S_R04_Pick : FSp := ⟨[.one (.l 56), .one (.l 3)], [], [113000000], [([.one (.all 0), .one (.b)], [.arr 56 true])]⟩
noncomputable def m_R04_Pick : List U → Rt
  | [.l v0, .l v1] =>
    (let r0 : Rs := (lres rd_R04_Pick_47_3 [U.l v0, U.l v1, U.i (0 : Int), U.l []])
    (.test (ok r0 0)
    (.stop 0 [.b (uB (out r0 0) 0), .l []])
    (.test (ok r0 1)
    (.stop 0 [.b true, .l (uL (out r0 1) 0)])
    .fail)))
  | _ => .fail
set_option maxRecDepth 100000 in
theorem q_R04_Pick (v0 : List (List PV)) (v1 : List (List PV)) : callK br Tryz.prog X182 M_R04_Pick L_R04_Pick (lsT ll_R04_Pick_47_3) 60 47 (encs [.l v0, .l v1] 0 S_R04_Pick.ap) (encH [.l v0, .l v1] (ws S_R04_Pick.ap) S_R04_Pick.ah) (fun y => fixR Tryz.prog S_R04_Pick.plan S_R04_Pick.ah.length y) =
    (m_R04_Pick [.l v0, .l v1]).go br (fun _ => none) S_R04_Pick.fin := by
  rw [← callF_eq]; kernel_rfl
theorem e_R04_Pick : EOK Tryz.prog 47 (gF S_R04_Pick m_R04_Pick) :=
  eokTold mixed named x182 (loopsOK_list rids lk_R04_Pick_47_3) 60 S_R04_Pick m_R04_Pick (by
    intro us v h; unfold m_R04_Pick at h; split at h
    · rename_i v0 v1; exact q_R04_Pick v0 v1
    · cases h) false
noncomputable abbrev X183 : Ext := extT [(47, (gF S_R04_Pick m_R04_Pick))] X182
theorem x183 : XOK Tryz.prog X183 := xok1 x182 e_R04_Pick

def L_R10_Pick : FuncId → Nat → Option (List Nat) := liveT [(15, 3, [1, 2, 5, 6]), (15, 1000003, [5]), (15, 2000003, [4])]
def M_R10_Pick : FuncId → Bool := fun _ => false
noncomputable def rd_R10_Pick_15_3 : List U → Rt
  | [.l v0, .i v1, .s v2, .s v3, .s v4, .i v5, .i v6, .l v7, .l v8, .b v9, .l v10, .l v11] =>
    (.test (decide (v1 < ln v0))
    (let r0 : Rs := (Rt.res (m_R05_May [U.l v0]))
    (.test (ok r0 0)
    (.test (uB (out r0 0) 0)
    (.test (inR v1 (ln v0))
    (let r1 : Rs := (Rt.res (m_R04_Pick [U.l (cL (el v0 v1) 0), U.l v8]))
    (.test (ok r1 0)
    (.test (uB (out r1 0) 0)
    (.test (decide (ln (uL (out r1 0) 1) ≤ (40 : Int)))
    (.test (inR v1 (ln v0))
    (let r2 : Rs := (Rt.res (m_R05_Add [U.l v11, U.l (uL (out r1 0) 1), U.i (cI (el v0 v1) 1)]))
    (.test (ok r2 0)
    (.next [.l v0, .i (w64 (v1 + (1 : Int))), .s v2, .s v3, .s v4, .i v5, .i v6, .l v7, .l v8, .b v9, .l v10, .l (uL (out r2 0) 0)])
    .fail))
    .fail)
    (.next [.l v0, .i (w64 (v1 + (1 : Int))), .s v2, .s v3, .s v4, .i v5, .i v6, .l v7, .l v8, .b v9, .l v10, .l v11]))
    (.next [.l v0, .i (w64 (v1 + (1 : Int))), .s v2, .s v3, .s v4, .i v5, .i v6, .l v7, .l v8, .b v9, .l v10, .l v11]))
    .fail))
    .fail)
    (.stop 0 [.l v11]))
    .fail))
    (.stop 0 [.l v11]))
  | _ => .fail
def sp_R10_Pick_15_3 : LSp := ⟨49, ⟨[(1, .one (.l 54)), (2, .one (.ptr 0 0)), (5, .one (.all 1)), (6, .one (.i .i64))], [.box 28 [.one (.s), .one (.s), .one (.s), .one (.i .i64), .one (.i .i64), .one (.l 58), .one (.l 3), .one (.b), .one (.l 165)], .arr 54 true]⟩, [(.exit 0, ⟨[(5, .one (.all 0))], [.arr 54 true]⟩)]⟩
set_option maxRecDepth 100000 in
theorem rq_R10_Pick_15_3 (v0 : List (List PV)) (v1 : Int) (v2 : ByteArray) (v3 : ByteArray) (v4 : ByteArray) (v5 : Int) (v6 : Int) (v7 : List (List PV)) (v8 : List (List PV)) (v9 : Bool) (v10 : List (List PV)) (v11 : List (List PV)) : runK br Tryz.prog (callK br Tryz.prog X183 M_R10_Pick L_R10_Pick (lsT []) 40) M_R10_Pick (lsT [] 15 0) 40 0 (L_R10_Pick 15) (bodyOf Tryz.prog 15 3) (sp_R10_Pick_15_3.s.ts sp_R10_Pick_15_3.n [.l v0, .i v1, .s v2, .s v3, .s v4, .i v5, .i v6, .l v7, .l v8, .b v9, .l v10, .l v11]) (sp_R10_Pick_15_3.s.h [.l v0, .i v1, .s v2, .s v3, .s v4, .i v5, .i v6, .l v7, .l v8, .b v9, .l v10, .l v11]) (idc Tryz.prog 0 (L_R10_Pick 15) 3) =
    (rd_R10_Pick_15_3 [.l v0, .i v1, .s v2, .s v3, .s v4, .i v5, .i v6, .l v7, .l v8, .b v9, .l v10, .l v11]).go br (fun us' => some (.normal, sp_R10_Pick_15_3.s.ts sp_R10_Pick_15_3.n us', sp_R10_Pick_15_3.s.h us')) sp_R10_Pick_15_3.fin := by
  rw [← callF_eq, ← runF_eq]; kernel_rfl
theorem lo_R10_Pick_15_3 {R : Type} : LoopTells Tryz.prog X183 M_R10_Pick L_R10_Pick 0 (L_R10_Pick 15) (bodyOf Tryz.prog 15 3) (gL (R := R) sp_R10_Pick_15_3 rd_R10_Pick_15_3 br) :=
  loopTold (callK_ev (loopsOK_list rids noneIn) 40) (lsokIn (loopsOK_list rids noneIn) 15 0 3) (by kernel_rfl) sp_R10_Pick_15_3 rd_R10_Pick_15_3 rfl (by kernel_rfl) (by
    intro us v h; unfold rd_R10_Pick_15_3 at h; split at h
    · rename_i v0 v1 v2 v3 v4 v5 v6 v7 v8 v9 v10 v11; exact rq_R10_Pick_15_3 v0 v1 v2 v3 v4 v5 v6 v7 v8 v9 v10 v11
    · cases h)
noncomputable abbrev ll_R10_Pick_15_3 {R : Type} : List (Nat × Nat × Nat × Smy R) := (15, 0, 3, gL sp_R10_Pick_15_3 rd_R10_Pick_15_3 br) :: []
theorem lk_R10_Pick_15_3 {R : Type} : ∀ e ∈ ll_R10_Pick_15_3 (R := R), LoopTells Tryz.prog X183 M_R10_Pick L_R10_Pick e.2.1 (L_R10_Pick e.1) (bodyOf Tryz.prog e.1 e.2.2.1) e.2.2.2 := List.forall_mem_cons.2 ⟨lo_R10_Pick_15_3, noneIn⟩
def S_R10_Pick : FSp := ⟨[.agg [.s, .s, .s, .i .i64, .i .i64, .l 58, .l 3, .b, .l 165], .one (.l 54)], [], [109000000], [([.one (.all 0)], [.arr 54 true])]⟩
noncomputable def m_R10_Pick : List U → Rt
  | [.s v0, .s v1, .s v2, .i v3, .i v4, .l v5, .l v6, .b v7, .l v8, .l v9] =>
    (let r0 : Rs := (lres rd_R10_Pick_15_3 [U.l v9, U.i (0 : Int), U.s v0, U.s v1, U.s v2, U.i v3, U.i v4, U.l v5, U.l v6, U.b v7, U.l v8, U.l []])
    (.test (ok r0 0)
    (let r1 : Rs := (Rt.res (m_R05_May [U.l (uL (out r0 0) 0)]))
    (.test (ok r1 0)
    (.test (!uB (out r1 0) 0)
    (.stop 0 [.l []])
    (.stop 0 [.l (uL (out r0 0) 0)]))
    .fail))
    .fail))
  | _ => .fail
set_option maxRecDepth 100000 in
theorem q_R10_Pick (v0 : ByteArray) (v1 : ByteArray) (v2 : ByteArray) (v3 : Int) (v4 : Int) (v5 : List (List PV)) (v6 : List (List PV)) (v7 : Bool) (v8 : List (List PV)) (v9 : List (List PV)) : callK br Tryz.prog X183 M_R10_Pick L_R10_Pick (lsT ll_R10_Pick_15_3) 60 15 (encs [.s v0, .s v1, .s v2, .i v3, .i v4, .l v5, .l v6, .b v7, .l v8, .l v9] 0 S_R10_Pick.ap) (encH [.s v0, .s v1, .s v2, .i v3, .i v4, .l v5, .l v6, .b v7, .l v8, .l v9] (ws S_R10_Pick.ap) S_R10_Pick.ah) (fun y => fixR Tryz.prog S_R10_Pick.plan S_R10_Pick.ah.length y) =
    (m_R10_Pick [.s v0, .s v1, .s v2, .i v3, .i v4, .l v5, .l v6, .b v7, .l v8, .l v9]).go br (fun _ => none) S_R10_Pick.fin := by
  rw [← callF_eq]; kernel_rfl
theorem e_R10_Pick : EOK Tryz.prog 15 (gF S_R10_Pick m_R10_Pick) :=
  eokTold mixed named x183 (loopsOK_list rids lk_R10_Pick_15_3) 60 S_R10_Pick m_R10_Pick (by
    intro us v h; unfold m_R10_Pick at h; split at h
    · rename_i v0 v1 v2 v3 v4 v5 v6 v7 v8 v9; exact q_R10_Pick v0 v1 v2 v3 v4 v5 v6 v7 v8 v9
    · cases h) false
noncomputable abbrev X184 : Ext := extT [(15, (gF S_R10_Pick m_R10_Pick))] X183
theorem x184 : XOK Tryz.prog X184 := xok1 x183 e_R10_Pick

def L_R13_Product : FuncId → Nat → Option (List Nat) := liveT []
def M_R13_Product : FuncId → Bool := fun _ => false
def S_R13_Product : FSp := ⟨[.agg [.s, .s, .s, .i .i64, .i .i64, .l 58, .l 3, .b, .l 165], .one (.l 54), .one (.l 54), .one (.l 54), .one (.l 54)], [], [110000000], [([.one (.l 54), .one (.i .i64)], [])]⟩
noncomputable def m_R13_Product : List U → Rt
  | [.s v0, .s v1, .s v2, .i v3, .i v4, .l v5, .l v6, .b v7, .l v8, .l v9, .l v10, .l v11, .l v12] =>
    (let r0 : Rs := (Rt.res (m_R05_May [U.l v9]))
    (.test (ok r0 0)
    (.test (!uB (out r0 0) 0)
    (.stop 0 [.l [], .i ((1 : Int))])
    (let r1 : Rs := (Rt.res (m_R05_May [U.l v10]))
    (.test (ok r1 0)
    (.test (!uB (out r1 0) 0)
    (.stop 0 [.l [], .i ((1 : Int))])
    (let r2 : Rs := (Rt.res (m_R05_May [U.l v11]))
    (.test (ok r2 0)
    (.test (!uB (out r2 0) 0)
    (.stop 0 [.l [], .i ((1 : Int))])
    (let r3 : Rs := (Rt.res (m_R05_May [U.l v12]))
    (.test (ok r3 0)
    (.test (!uB (out r3 0) 0)
    (.stop 0 [.l [], .i ((1 : Int))])
    (.test (ByteArray.toList v2 == [])
    (.stop 0 [.l v10, .i ((0 : Int))])
    (let r4 : Rs := (Rt.res (m_R10_Product [U.s v0, U.s v1, U.s v2, U.i v3, U.i v4, U.l v5, U.l v6, U.b v7, U.l v8, U.l v10, U.l v11]))
    (.test (ok r4 0)
    (.test (uI (out r4 0) 1 != (0 : Int))
    (.stop 0 [.l [], .i (uI (out r4 0) 1)])
    (let r5 : Rs := (Rt.res (m_R10_Product [U.s v0, U.s v1, U.s v2, U.i v3, U.i v4, U.l v5, U.l v6, U.b v7, U.l v8, U.l v9, U.l v12]))
    (.test (ok r5 0)
    (.test (uI (out r5 0) 1 != (0 : Int))
    (.stop 0 [.l [], .i (uI (out r5 0) 1)])
    (let r6 : Rs := (Rt.res (m_R10_Product [U.s v0, U.s v1, U.s v2, U.i v3, U.i v4, U.l v5, U.l v6, U.b v7, U.l v8, U.l v10, U.l v12]))
    (.test (ok r6 0)
    (.test (uI (out r6 0) 1 != (0 : Int))
    (.stop 0 [.l [], .i (uI (out r6 0) 1)])
    (let r7 : Rs := (Rt.res (m_R05_Both [U.l (uL (out r4 0) 0), U.l (uL (out r5 0) 0)]))
    (.test (ok r7 0)
    (let r8 : Rs := (Rt.res (m_R05_Both [U.l (uL (out r7 0) 0), U.l (uL (out r6 0) 0)]))
    (.test (ok r8 0)
    (let r9 : Rs := (Rt.res (m_R05_May [U.l (uL (out r8 0) 0)]))
    (.test (ok r9 0)
    (.test (!uB (out r9 0) 0)
    (.stop 0 [.l [], .i ((100 : Int))])
    (.stop 0 [.l (uL (out r8 0) 0), .i ((0 : Int))]))
    .fail))
    .fail))
    .fail)))
    .fail)))
    .fail)))
    .fail))))
    .fail)))
    .fail)))
    .fail)))
    .fail))
  | _ => .fail
set_option maxRecDepth 100000 in
theorem q_R13_Product (v0 : ByteArray) (v1 : ByteArray) (v2 : ByteArray) (v3 : Int) (v4 : Int) (v5 : List (List PV)) (v6 : List (List PV)) (v7 : Bool) (v8 : List (List PV)) (v9 : List (List PV)) (v10 : List (List PV)) (v11 : List (List PV)) (v12 : List (List PV)) : callK br Tryz.prog X184 M_R13_Product L_R13_Product (lsT []) 60 19 (encs [.s v0, .s v1, .s v2, .i v3, .i v4, .l v5, .l v6, .b v7, .l v8, .l v9, .l v10, .l v11, .l v12] 0 S_R13_Product.ap) (encH [.s v0, .s v1, .s v2, .i v3, .i v4, .l v5, .l v6, .b v7, .l v8, .l v9, .l v10, .l v11, .l v12] (ws S_R13_Product.ap) S_R13_Product.ah) (fun y => fixR Tryz.prog S_R13_Product.plan S_R13_Product.ah.length y) =
    (m_R13_Product [.s v0, .s v1, .s v2, .i v3, .i v4, .l v5, .l v6, .b v7, .l v8, .l v9, .l v10, .l v11, .l v12]).go br (fun _ => none) S_R13_Product.fin := by
  rw [← callF_eq]; kernel_rfl
theorem e_R13_Product : EOK Tryz.prog 19 (gF S_R13_Product m_R13_Product) :=
  eokTold mixed named x184 (loopsOK_list rids noneIn) 60 S_R13_Product m_R13_Product (by
    intro us v h; unfold m_R13_Product at h; split at h
    · rename_i v0 v1 v2 v3 v4 v5 v6 v7 v8 v9 v10 v11 v12; exact q_R13_Product v0 v1 v2 v3 v4 v5 v6 v7 v8 v9 v10 v11 v12
    · cases h) false
noncomputable abbrev X185 : Ext := extT [(19, (gF S_R13_Product m_R13_Product))] X184
theorem x185 : XOK Tryz.prog X185 := xok1 x184 e_R13_Product

def L_R13_Joined : FuncId → Nat → Option (List Nat) := liveT []
def M_R13_Joined : FuncId → Bool := fun _ => false
def S_R13_Joined : FSp := ⟨[.agg [.s, .s, .s, .i .i64, .i .i64, .l 58, .l 3, .b, .l 165], .one (.l 54), .one (.l 54), .one (.l 54), .one (.l 54)], [], [109000000], [([.one (.all 0), .one (.i .i64)], [.arr 54 true])]⟩
noncomputable def m_R13_Joined : List U → Rt
  | [.s v0, .s v1, .s v2, .i v3, .i v4, .l v5, .l v6, .b v7, .l v8, .l v9, .l v10, .l v11, .l v12] =>
    (let r0 : Rs := (Rt.res (m_R13_Product [U.s v0, U.s v1, U.s v2, U.i v3, U.i v4, U.l v5, U.l v6, U.b v7, U.l v8, U.l v9, U.l v10, U.l v11, U.l v12]))
    (.test (ok r0 0)
    (.test (uI (out r0 0) 1 != (0 : Int))
    (.stop 0 [.i (uI (out r0 0) 1), .l []])
    (let r1 : Rs := (Rt.res (m_R10_Where [U.s v0, U.s v1, U.s v2, U.i v3, U.i v4, U.l v5, U.l v6, U.b v7, U.l v8, U.l (uL (out r0 0) 0)]))
    (.test (ok r1 0)
    (.stop 0 [.i (uI (out r1 0) 0), .l (uL (out r1 0) 1)])
    .fail)))
    .fail))
  | _ => .fail
set_option maxRecDepth 100000 in
theorem q_R13_Joined (v0 : ByteArray) (v1 : ByteArray) (v2 : ByteArray) (v3 : Int) (v4 : Int) (v5 : List (List PV)) (v6 : List (List PV)) (v7 : Bool) (v8 : List (List PV)) (v9 : List (List PV)) (v10 : List (List PV)) (v11 : List (List PV)) (v12 : List (List PV)) : callK br Tryz.prog X185 M_R13_Joined L_R13_Joined (lsT []) 60 21 (encs [.s v0, .s v1, .s v2, .i v3, .i v4, .l v5, .l v6, .b v7, .l v8, .l v9, .l v10, .l v11, .l v12] 0 S_R13_Joined.ap) (encH [.s v0, .s v1, .s v2, .i v3, .i v4, .l v5, .l v6, .b v7, .l v8, .l v9, .l v10, .l v11, .l v12] (ws S_R13_Joined.ap) S_R13_Joined.ah) (fun y => fixR Tryz.prog S_R13_Joined.plan S_R13_Joined.ah.length y) =
    (m_R13_Joined [.s v0, .s v1, .s v2, .i v3, .i v4, .l v5, .l v6, .b v7, .l v8, .l v9, .l v10, .l v11, .l v12]).go br (fun _ => none) S_R13_Joined.fin := by
  rw [← callF_eq]; kernel_rfl
theorem e_R13_Joined : EOK Tryz.prog 21 (gF S_R13_Joined m_R13_Joined) :=
  eokTold mixed named x185 (loopsOK_list rids noneIn) 60 S_R13_Joined m_R13_Joined (by
    intro us v h; unfold m_R13_Joined at h; split at h
    · rename_i v0 v1 v2 v3 v4 v5 v6 v7 v8 v9 v10 v11 v12; exact q_R13_Joined v0 v1 v2 v3 v4 v5 v6 v7 v8 v9 v10 v11 v12
    · cases h) false
noncomputable abbrev X186 : Ext := extT [(21, (gF S_R13_Joined m_R13_Joined))] X185
theorem x186 : XOK Tryz.prog X186 := xok1 x185 e_R13_Joined

def L_L13_joined : FuncId → Nat → Option (List Nat) := liveT []
def M_L13_joined : FuncId → Bool := fun _ => false
def S_L13_joined : FSp := ⟨[.agg [.s, .s, .s, .i .i64, .i .i64, .l 58, .l 3, .b, .l 165], .one (.l 54), .one (.l 54)], [], [109000000], [([.one (.all 0), .one (.i .i64)], [.arr 54 true])]⟩
noncomputable def m_L13_joined : List U → Rt
  | [.s v0, .s v1, .s v2, .i v3, .i v4, .l v5, .l v6, .b v7, .l v8, .l v9, .l v10] =>
    (let r0 : Rs := (Rt.res (m_R10_Product [U.s v0, U.s v1, U.s v2, U.i v3, U.i v4, U.l v5, U.l v6, U.b v7, U.l v8, U.l v9, U.l v10]))
    (.test (ok r0 0)
    (.test (uI (out r0 0) 1 != (0 : Int))
    (.stop 0 [.i (uI (out r0 0) 1), .l []])
    (let r1 : Rs := (Rt.res (m_R10_Where [U.s v0, U.s v1, U.s v2, U.i v3, U.i v4, U.l v5, U.l v6, U.b v7, U.l v8, U.l (uL (out r0 0) 0)]))
    (.test (ok r1 0)
    (.stop 0 [.i (uI (out r1 0) 0), .l (uL (out r1 0) 1)])
    .fail)))
    .fail))
  | _ => .fail
set_option maxRecDepth 100000 in
theorem q_L13_joined (v0 : ByteArray) (v1 : ByteArray) (v2 : ByteArray) (v3 : Int) (v4 : Int) (v5 : List (List PV)) (v6 : List (List PV)) (v7 : Bool) (v8 : List (List PV)) (v9 : List (List PV)) (v10 : List (List PV)) : callK br Tryz.prog X186 M_L13_joined L_L13_joined (lsT []) 60 23 (encs [.s v0, .s v1, .s v2, .i v3, .i v4, .l v5, .l v6, .b v7, .l v8, .l v9, .l v10] 0 S_L13_joined.ap) (encH [.s v0, .s v1, .s v2, .i v3, .i v4, .l v5, .l v6, .b v7, .l v8, .l v9, .l v10] (ws S_L13_joined.ap) S_L13_joined.ah) (fun y => fixR Tryz.prog S_L13_joined.plan S_L13_joined.ah.length y) =
    (m_L13_joined [.s v0, .s v1, .s v2, .i v3, .i v4, .l v5, .l v6, .b v7, .l v8, .l v9, .l v10]).go br (fun _ => none) S_L13_joined.fin := by
  rw [← callF_eq]; kernel_rfl
theorem e_L13_joined : EOK Tryz.prog 23 (gF S_L13_joined m_L13_joined) :=
  eokTold mixed named x186 (loopsOK_list rids noneIn) 60 S_L13_joined m_L13_joined (by
    intro us v h; unfold m_L13_joined at h; split at h
    · rename_i v0 v1 v2 v3 v4 v5 v6 v7 v8 v9 v10; exact q_L13_joined v0 v1 v2 v3 v4 v5 v6 v7 v8 v9 v10
    · cases h) false
noncomputable abbrev X187 : Ext := extT [(23, (gF S_L13_joined m_L13_joined))] X186
theorem x187 : XOK Tryz.prog X187 := xok1 x186 e_L13_joined

def L_L13_below : FuncId → Nat → Option (List Nat) := liveT [(25, 2, [0, 3]), (25, 1000002, []), (25, 2000002, [2])]
def M_L13_below : FuncId → Bool := fun _ => false
noncomputable def rd_L13_below_25_2 : List U → Rt
  | [.l v0, .i v1] =>
    (.test (decide (v1 < ln v0))
    (.test (inR v1 (ln v0))
    (.test (decide (cI (el v0 v1) 1 < (0 : Int)))
    (.stop 0 [.b true])
    (.next [.l v0, .i (w64 (v1 + (1 : Int)))]))
    .fail)
    (.stop 1 []))
  | _ => .fail
def sp_L13_below_25_2 : LSp := ⟨16, ⟨[(0, .one (.l 54)), (3, .one (.i .i64))], []⟩, [(.ret, ⟨[(2, .one (.b))], []⟩), (.exit 0, ⟨[], []⟩)]⟩
set_option maxRecDepth 100000 in
theorem rq_L13_below_25_2 (v0 : List (List PV)) (v1 : Int) : runK br Tryz.prog (callK br Tryz.prog X187 M_L13_below L_L13_below (lsT []) 40) M_L13_below (lsT [] 25 0) 40 0 (L_L13_below 25) (bodyOf Tryz.prog 25 2) (sp_L13_below_25_2.s.ts sp_L13_below_25_2.n [.l v0, .i v1]) (sp_L13_below_25_2.s.h [.l v0, .i v1]) (idc Tryz.prog 0 (L_L13_below 25) 2) =
    (rd_L13_below_25_2 [.l v0, .i v1]).go br (fun us' => some (.normal, sp_L13_below_25_2.s.ts sp_L13_below_25_2.n us', sp_L13_below_25_2.s.h us')) sp_L13_below_25_2.fin := by
  rw [← callF_eq, ← runF_eq]; kernel_rfl
theorem lo_L13_below_25_2 {R : Type} : LoopTells Tryz.prog X187 M_L13_below L_L13_below 0 (L_L13_below 25) (bodyOf Tryz.prog 25 2) (gL (R := R) sp_L13_below_25_2 rd_L13_below_25_2 br) :=
  loopTold (callK_ev (loopsOK_list rids noneIn) 40) (lsokIn (loopsOK_list rids noneIn) 25 0 2) (by kernel_rfl) sp_L13_below_25_2 rd_L13_below_25_2 rfl (by kernel_rfl) (by
    intro us v h; unfold rd_L13_below_25_2 at h; split at h
    · rename_i v0 v1; exact rq_L13_below_25_2 v0 v1
    · cases h)
noncomputable abbrev ll_L13_below_25_2 {R : Type} : List (Nat × Nat × Nat × Smy R) := (25, 0, 2, gL sp_L13_below_25_2 rd_L13_below_25_2 br) :: []
theorem lk_L13_below_25_2 {R : Type} : ∀ e ∈ ll_L13_below_25_2 (R := R), LoopTells Tryz.prog X187 M_L13_below L_L13_below e.2.1 (L_L13_below e.1) (bodyOf Tryz.prog e.1 e.2.2.1) e.2.2.2 := List.forall_mem_cons.2 ⟨lo_L13_below_25_2, noneIn⟩
def S_L13_below : FSp := ⟨[.one (.l 54)], [], [], [([.one (.b)], [])]⟩
noncomputable def m_L13_below : List U → Rt
  | [.l v0] =>
    (let r0 : Rs := (lres rd_L13_below_25_2 [U.l v0, U.i (0 : Int)])
    (.test (ok r0 0)
    (.stop 0 [.b (uB (out r0 0) 0)])
    (.test (ok r0 1)
    (.stop 0 [.b false])
    .fail)))
  | _ => .fail
set_option maxRecDepth 100000 in
theorem q_L13_below (v0 : List (List PV)) : callK br Tryz.prog X187 M_L13_below L_L13_below (lsT ll_L13_below_25_2) 60 25 (encs [.l v0] 0 S_L13_below.ap) (encH [.l v0] (ws S_L13_below.ap) S_L13_below.ah) (fun y => fixR Tryz.prog S_L13_below.plan S_L13_below.ah.length y) =
    (m_L13_below [.l v0]).go br (fun _ => none) S_L13_below.fin := by
  rw [← callF_eq]; kernel_rfl
theorem e_L13_below : EOK Tryz.prog 25 (gF S_L13_below m_L13_below) :=
  eokTold mixed named x187 (loopsOK_list rids lk_L13_below_25_2) 60 S_L13_below m_L13_below (by
    intro us v h; unfold m_L13_below at h; split at h
    · rename_i v0; exact q_L13_below v0
    · cases h) false
noncomputable abbrev X188 : Ext := extT [(25, (gF S_L13_below m_L13_below))] X187
theorem x188 : XOK Tryz.prog X188 := xok1 x187 e_L13_below

end Go.Proofs.YtikmahlogjcieaaGreat





















set_option linter.unusedVariables false
namespace Go.Proofs.YtikmahlogjcieaaGreat
open Go Go.Pu

end Go.Proofs.YtikmahlogjcieaaGreat

set_option linter.unusedVariables false
namespace Go.Proofs.YtikmahlogjcieaaGreat
open Go Go.Pu

end Go.Proofs.YtikmahlogjcieaaGreat

set_option linter.unusedVariables false
namespace Go.Proofs.YtikmahlogjcieaaGreat
open Go Go.Pu

def L_L13_DeltaAdds : FuncId → Nat → Option (List Nat) := liveT []
def M_L13_DeltaAdds : FuncId → Bool := fun _ => false
def S_L13_DeltaAdds : FSp := ⟨[.agg [.s, .s, .s, .i .i64, .i .i64, .l 58, .l 3, .b, .l 165], .agg [.l 54, .l 54, .l 54, .l 54], .one (.b)], [], [], [([.one (.b)], [])]⟩
noncomputable def m_L13_DeltaAdds : List U → Rt
  | [.s v0, .s v1, .s v2, .i v3, .i v4, .l v5, .l v6, .b v7, .l v8, .l v9, .l v10, .l v11, .l v12, .b v13] =>
    (let r0 : Rs := (Rt.res (m_L13_small [U.s v0, U.s v1, U.s v2, U.i v3, U.i v4, U.l v5, U.l v6, U.b v7, U.l v8, U.l v9, U.l v10, U.l v11, U.l v12]))
    (.test (ok r0 0)
    (.test (!uB (out r0 0) 0)
    (.stop 0 [.b true])
    (let r1 : Rs := (Rt.res (m_L13_may [U.l v9, U.l v10, U.l v11, U.l v12]))
    (.test (ok r1 0)
    (.test (!uB (out r1 0) 0)
    (.stop 0 [.b true])
    (.test v13
    (let r2 : Rs := (Rt.res (m_delta_Joined [U.s v0, U.s v1, U.s v2, U.i v3, U.i v4, U.l v5, U.l v6, U.b v7, U.l v8, U.l v9, U.l v10, U.l v9, U.l v10]))
    (.test (ok r2 0)
    (let r3 : Rs := (Rt.res (m_L13_joined [U.s v0, U.s v1, U.s v2, U.i v3, U.i v4, U.l v5, U.l v6, U.b v7, U.l v8, U.l v9, U.l v9]))
    (.test (ok r3 0)
    (let r4 : Rs := (Rt.res (m_R05_Both [U.l v9, U.l v10]))
    (.test (ok r4 0)
    (let r5 : Rs := (Rt.res (m_R05_Both [U.l v9, U.l v10]))
    (.test (ok r5 0)
    (let r6 : Rs := (Rt.res (m_L13_joined [U.s v0, U.s v1, U.s v2, U.i v3, U.i v4, U.l v5, U.l v6, U.b v7, U.l v8, U.l (uL (out r4 0) 0), U.l (uL (out r5 0) 0)]))
    (.test (ok r6 0)
    (.test (uI (out r2 0) 0 != (0 : Int))
    (.test (uI (out r2 0) 0 == (0 : Int))
    (.stop 0 [.b true])
    (.stop 0 [.b (ln (uL (out r2 0) 1) == (0 : Int))]))
    (.test (uI (out r3 0) 0 != (0 : Int))
    (.test (uI (out r2 0) 0 == (0 : Int))
    (.stop 0 [.b true])
    (.stop 0 [.b (ln (uL (out r2 0) 1) == (0 : Int))]))
    (.test (uI (out r6 0) 0 != (0 : Int))
    (.test (uI (out r2 0) 0 == (0 : Int))
    (.stop 0 [.b true])
    (.stop 0 [.b (ln (uL (out r2 0) 1) == (0 : Int))]))
    (let r7 : Rs := (Rt.res (m_R05_Both [U.l (uL (out r3 0) 1), U.l (uL (out r2 0) 1)]))
    (.test (ok r7 0)
    (let r8 : Rs := (Rt.res (m_R05_Same [U.l (uL (out r7 0) 0), U.l (uL (out r6 0) 1)]))
    (.test (ok r8 0)
    (.stop 0 [.b (uB (out r8 0) 0)])
    .fail))
    .fail)))))
    .fail))
    .fail))
    .fail))
    .fail))
    .fail))
    (let r9 : Rs := (Rt.res (m_delta_Joined [U.s v0, U.s v1, U.s v2, U.i v3, U.i v4, U.l v5, U.l v6, U.b v7, U.l v8, U.l v9, U.l v10, U.l v11, U.l v12]))
    (.test (ok r9 0)
    (let r10 : Rs := (Rt.res (m_L13_joined [U.s v0, U.s v1, U.s v2, U.i v3, U.i v4, U.l v5, U.l v6, U.b v7, U.l v8, U.l v9, U.l v11]))
    (.test (ok r10 0)
    (let r11 : Rs := (Rt.res (m_R05_Both [U.l v9, U.l v10]))
    (.test (ok r11 0)
    (let r12 : Rs := (Rt.res (m_R05_Both [U.l v11, U.l v12]))
    (.test (ok r12 0)
    (let r13 : Rs := (Rt.res (m_L13_joined [U.s v0, U.s v1, U.s v2, U.i v3, U.i v4, U.l v5, U.l v6, U.b v7, U.l v8, U.l (uL (out r11 0) 0), U.l (uL (out r12 0) 0)]))
    (.test (ok r13 0)
    (.test (uI (out r9 0) 0 != (0 : Int))
    (.test (uI (out r9 0) 0 == (0 : Int))
    (.stop 0 [.b true])
    (.stop 0 [.b (ln (uL (out r9 0) 1) == (0 : Int))]))
    (.test (uI (out r10 0) 0 != (0 : Int))
    (.test (uI (out r9 0) 0 == (0 : Int))
    (.stop 0 [.b true])
    (.stop 0 [.b (ln (uL (out r9 0) 1) == (0 : Int))]))
    (.test (uI (out r13 0) 0 != (0 : Int))
    (.test (uI (out r9 0) 0 == (0 : Int))
    (.stop 0 [.b true])
    (.stop 0 [.b (ln (uL (out r9 0) 1) == (0 : Int))]))
    (let r14 : Rs := (Rt.res (m_R05_Both [U.l (uL (out r10 0) 1), U.l (uL (out r9 0) 1)]))
    (.test (ok r14 0)
    (let r15 : Rs := (Rt.res (m_R05_Same [U.l (uL (out r14 0) 0), U.l (uL (out r13 0) 1)]))
    (.test (ok r15 0)
    (.stop 0 [.b (uB (out r15 0) 0)])
    .fail))
    .fail)))))
    .fail))
    .fail))
    .fail))
    .fail))
    .fail))))
    .fail)))
    .fail))
  | _ => .fail
set_option maxRecDepth 100000 in
theorem q_L13_DeltaAdds (v0 : ByteArray) (v1 : ByteArray) (v2 : ByteArray) (v3 : Int) (v4 : Int) (v5 : List (List PV)) (v6 : List (List PV)) (v7 : Bool) (v8 : List (List PV)) (v9 : List (List PV)) (v10 : List (List PV)) (v11 : List (List PV)) (v12 : List (List PV)) (v13 : Bool) : callK br Tryz.prog X188 M_L13_DeltaAdds L_L13_DeltaAdds (lsT []) 60 5 (encs [.s v0, .s v1, .s v2, .i v3, .i v4, .l v5, .l v6, .b v7, .l v8, .l v9, .l v10, .l v11, .l v12, .b v13] 0 S_L13_DeltaAdds.ap) (encH [.s v0, .s v1, .s v2, .i v3, .i v4, .l v5, .l v6, .b v7, .l v8, .l v9, .l v10, .l v11, .l v12, .b v13] (ws S_L13_DeltaAdds.ap) S_L13_DeltaAdds.ah) (fun y => fixR Tryz.prog S_L13_DeltaAdds.plan S_L13_DeltaAdds.ah.length y) =
    (m_L13_DeltaAdds [.s v0, .s v1, .s v2, .i v3, .i v4, .l v5, .l v6, .b v7, .l v8, .l v9, .l v10, .l v11, .l v12, .b v13]).go br (fun _ => none) S_L13_DeltaAdds.fin := by
  rw [← callF_eq]; kernel_rfl
theorem e_L13_DeltaAdds : EOK Tryz.prog 5 (gF S_L13_DeltaAdds m_L13_DeltaAdds) :=
  eokTold mixed named x188 (loopsOK_list rids noneIn) 60 S_L13_DeltaAdds m_L13_DeltaAdds (by
    intro us v h; unfold m_L13_DeltaAdds at h; split at h
    · rename_i v0 v1 v2 v3 v4 v5 v6 v7 v8 v9 v10 v11 v12 v13; exact q_L13_DeltaAdds v0 v1 v2 v3 v4 v5 v6 v7 v8 v9 v10 v11 v12 v13
    · cases h) false
noncomputable abbrev X341 : Ext := extT [(5, (gF S_L13_DeltaAdds m_L13_DeltaAdds))] X188
theorem x341 : XOK Tryz.prog X341 := xok1 x188 e_L13_DeltaAdds

end Go.Proofs.YtikmahlogjcieaaGreat
