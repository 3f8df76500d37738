/- Texts of this seat, one behind the other. -/
import Derived.Test.YtccgmaeflmbmlaaDoorKX
set_option linter.unusedVariables false
namespace Go.Proofs.YtccgmaeflmbmlaaDoor
open Go Go.Pu

/-- levee/value.Truth -/
def L_value_Truth : FuncId → Nat → Option (List Nat) := liveT []
def M_value_Truth : FuncId → Bool := fun _ => false
def S_value_Truth : FSp := ⟨[.one (.b)], [], [], [([.agg [.i .i64, .i .i64, .s]], [])]⟩
noncomputable def m_value_Truth : List U → Rt
  | [.b v0] =>
    (.test v0
    (.stop 0 [.i ((1 : Int)), .i ((1 : Int)), .s ({ data := #[] })])
    (.stop 0 [.i ((1 : Int)), .i ((0 : Int)), .s ({ data := #[] })]))
  | _ => .fail
set_option maxRecDepth 100000 in
theorem q_value_Truth (v0 : Bool) : callK br Tryd.prog XD M_value_Truth L_value_Truth (lsT []) 60 21 (encs [.b v0] 0 S_value_Truth.ap) (encH [.b v0] (ws S_value_Truth.ap) S_value_Truth.ah) (fun y => fixR Tryd.prog S_value_Truth.plan S_value_Truth.ah.length y) =
    (m_value_Truth [.b v0]).go br (fun _ => none) S_value_Truth.fin := by
  rw [← callF_eq]; kernel_rfl
theorem e_value_Truth : EOK Tryd.prog 21 (gF S_value_Truth m_value_Truth) :=
  eokTold mixed named xD (loopsOK_list rids noneIn) 60 S_value_Truth m_value_Truth (by
    intro us v h; unfold m_value_Truth at h; split at h
    · rename_i v0; exact q_value_Truth v0
    · cases h) false
noncomputable abbrev X1 : Ext := extT [(21, (gF S_value_Truth m_value_Truth))] XD
theorem x1 : XOK Tryd.prog X1 := xok1 xD e_value_Truth

/-- levee/leveeref01.Int -/
def L_R01_Int : FuncId → Nat → Option (List Nat) := liveT []
def M_R01_Int : FuncId → Bool := fun _ => false
def S_R01_Int : FSp := ⟨[.one (.i .i64)], [], [], [([.agg [.i .i64, .i .i64, .s]], [])]⟩
noncomputable def m_R01_Int : List U → Rt
  | [.i v0] =>
    (.stop 0 [.i ((2 : Int)), .i v0, .s ({ data := #[] })])
  | _ => .fail
set_option maxRecDepth 100000 in
theorem q_R01_Int (v0 : Int) : callK br Tryd.prog X1 M_R01_Int L_R01_Int (lsT []) 60 25 (encs [.i v0] 0 S_R01_Int.ap) (encH [.i v0] (ws S_R01_Int.ap) S_R01_Int.ah) (fun y => fixR Tryd.prog S_R01_Int.plan S_R01_Int.ah.length y) =
    (m_R01_Int [.i v0]).go br (fun _ => none) S_R01_Int.fin := by
  rw [← callF_eq]; kernel_rfl
theorem e_R01_Int : EOK Tryd.prog 25 (gI S_R01_Int m_R01_Int) :=
  eokTold mixed named x1 (loopsOK_list rids noneIn) 60 S_R01_Int m_R01_Int (by
    intro us v h; unfold m_R01_Int at h; split at h
    · rename_i v0; exact q_R01_Int v0
    · cases h) true
noncomputable abbrev X2 : Ext := extT [(25, (gI S_R01_Int m_R01_Int))] X1
theorem x2 : XOK Tryd.prog X2 := xok1 x1 e_R01_Int

/-- levee/value.Add -/
def L_value_Add : FuncId → Nat → Option (List Nat) := liveT []
def M_value_Add : FuncId → Bool := fun _ => false
def S_value_Add : FSp := ⟨[.agg [.i .i64, .i .i64, .s], .agg [.i .i64, .i .i64, .s]], [], [], [([.agg [.i .i64, .i .i64, .s], .one (.b)], [])]⟩
noncomputable def m_value_Add : List U → Rt
  | [.i v0, .i v1, .s v2, .i v3, .i v4, .s v5] =>
    (.test (v0 == (0 : Int))
    (.stop 0 [.i ((0 : Int)), .i ((0 : Int)), .s ({ data := #[] }), .b true])
    (.test (v3 == (0 : Int))
    (.stop 0 [.i ((0 : Int)), .i ((0 : Int)), .s ({ data := #[] }), .b true])
    (.test (v0 != (2 : Int))
    (.stop 0 [.i ((0 : Int)), .i ((0 : Int)), .s ({ data := #[] }), .b false])
    (.test (v3 != (2 : Int))
    (.stop 0 [.i ((0 : Int)), .i ((0 : Int)), .s ({ data := #[] }), .b false])
    (.test (decide (w64 (v1 + v4) > v1) == decide (v4 > (0 : Int)))
    (.stop 0 [.i ((2 : Int)), .i (w64 (v1 + v4)), .s ({ data := #[] }), .b true])
    (.test (!v4 == (0 : Int))
    (.stop 0 [.i ((0 : Int)), .i ((0 : Int)), .s ({ data := #[] }), .b false])
    (.stop 0 [.i ((2 : Int)), .i (w64 (v1 + v4)), .s ({ data := #[] }), .b true])))))))
  | _ => .fail
set_option maxRecDepth 100000 in
theorem q_value_Add (v0 : Int) (v1 : Int) (v2 : ByteArray) (v3 : Int) (v4 : Int) (v5 : ByteArray) : callK br Tryd.prog X2 M_value_Add L_value_Add (lsT []) 60 24 (encs [.i v0, .i v1, .s v2, .i v3, .i v4, .s v5] 0 S_value_Add.ap) (encH [.i v0, .i v1, .s v2, .i v3, .i v4, .s v5] (ws S_value_Add.ap) S_value_Add.ah) (fun y => fixR Tryd.prog S_value_Add.plan S_value_Add.ah.length y) =
    (m_value_Add [.i v0, .i v1, .s v2, .i v3, .i v4, .s v5]).go br (fun _ => none) S_value_Add.fin := by
  rw [← callF_eq]; kernel_rfl
theorem e_value_Add : EOK Tryd.prog 24 (gF S_value_Add m_value_Add) :=
  eokTold mixed named x2 (loopsOK_list rids noneIn) 60 S_value_Add m_value_Add (by
    intro us v h; unfold m_value_Add at h; split at h
    · rename_i v0 v1 v2 v3 v4 v5; exact q_value_Add v0 v1 v2 v3 v4 v5
    · cases h) false
noncomputable abbrev X3 : Ext := extT [(24, (gF S_value_Add m_value_Add))] X2
theorem x3 : XOK Tryd.prog X3 := xok1 x2 e_value_Add

/-- levee/leveeref01.Most -/
def L_R01_Most : FuncId → Nat → Option (List Nat) := liveT []
def M_R01_Most : FuncId → Bool := fun _ => false
def S_R01_Most : FSp := ⟨[], [], [], [([.one (.i .i64)], [])]⟩
noncomputable def m_R01_Most : List U → Rt
  | [] =>
    (.stop 0 [.i ((9223372036854775807 : Int))])
  | _ => .fail
set_option maxRecDepth 100000 in
theorem q_R01_Most : callK br Tryd.prog X3 M_R01_Most L_R01_Most (lsT []) 60 43 (encs [] 0 S_R01_Most.ap) (encH [] (ws S_R01_Most.ap) S_R01_Most.ah) (fun y => fixR Tryd.prog S_R01_Most.plan S_R01_Most.ah.length y) =
    (m_R01_Most []).go br (fun _ => none) S_R01_Most.fin := by
  rw [← callF_eq]; kernel_rfl
theorem e_R01_Most : EOK Tryd.prog 43 (gI S_R01_Most m_R01_Most) :=
  eokTold mixed named x3 (loopsOK_list rids noneIn) 60 S_R01_Most m_R01_Most (by
    intro us v h; unfold m_R01_Most at h; split at h
    · exact q_R01_Most
    · cases h) true
noncomputable abbrev X4 : Ext := extT [(43, (gI S_R01_Most m_R01_Most))] X3
theorem x4 : XOK Tryd.prog X4 := xok1 x3 e_R01_Most

/-- levee/leveeref01.Least -/
def L_R01_Least : FuncId → Nat → Option (List Nat) := liveT []
def M_R01_Least : FuncId → Bool := fun _ => false
def S_R01_Least : FSp := ⟨[], [], [], [([.one (.i .i64)], [])]⟩
noncomputable def m_R01_Least : List U → Rt
  | [] =>
    (.stop 0 [.i ((-9223372036854775808 : Int))])
  | _ => .fail
set_option maxRecDepth 100000 in
theorem q_R01_Least : callK br Tryd.prog X4 M_R01_Least L_R01_Least (lsT []) 60 44 (encs [] 0 S_R01_Least.ap) (encH [] (ws S_R01_Least.ap) S_R01_Least.ah) (fun y => fixR Tryd.prog S_R01_Least.plan S_R01_Least.ah.length y) =
    (m_R01_Least []).go br (fun _ => none) S_R01_Least.fin := by
  rw [← callF_eq]; kernel_rfl
theorem e_R01_Least : EOK Tryd.prog 44 (gI S_R01_Least m_R01_Least) :=
  eokTold mixed named x4 (loopsOK_list rids noneIn) 60 S_R01_Least m_R01_Least (by
    intro us v h; unfold m_R01_Least at h; split at h
    · exact q_R01_Least
    · cases h) true
noncomputable abbrev X5 : Ext := extT [(44, (gI S_R01_Least m_R01_Least))] X4
theorem x5 : XOK Tryd.prog X5 := xok1 x4 e_R01_Least

/-- levee/value.amount -/
def L_value_amount : FuncId → Nat → Option (List Nat) := liveT []
def M_value_amount : FuncId → Bool := fun _ => false
def S_value_amount : FSp := ⟨[.one (.i .i64)], [], [], [([.one (.i .u64)], [])]⟩
noncomputable def m_value_amount : List U → Rt
  | [.i v0] =>
    (.test (decide (v0 < (0 : Int)))
    (.stop 0 [.i (IntKind.wrap IntKind.u64 ((0 : Int) - IntKind.wrap IntKind.u64 v0))])
    (.stop 0 [.i (IntKind.wrap IntKind.u64 v0)]))
  | _ => .fail
set_option maxRecDepth 100000 in
theorem q_value_amount (v0 : Int) : callK br Tryd.prog X5 M_value_amount L_value_amount (lsT []) 60 54 (encs [.i v0] 0 S_value_amount.ap) (encH [.i v0] (ws S_value_amount.ap) S_value_amount.ah) (fun y => fixR Tryd.prog S_value_amount.plan S_value_amount.ah.length y) =
    (m_value_amount [.i v0]).go br (fun _ => none) S_value_amount.fin := by
  rw [← callF_eq]; kernel_rfl
theorem e_value_amount : EOK Tryd.prog 54 (gF S_value_amount m_value_amount) :=
  eokTold mixed named x5 (loopsOK_list rids noneIn) 60 S_value_amount m_value_amount (by
    intro us v h; unfold m_value_amount at h; split at h
    · rename_i v0; exact q_value_amount v0
    · cases h) false
noncomputable abbrev X6 : Ext := extT [(54, (gF S_value_amount m_value_amount))] X5
theorem x6 : XOK Tryd.prog X6 := xok1 x5 e_value_amount

/-- levee/value.Mul -/
def L_value_Mul : FuncId → Nat → Option (List Nat) := liveT []
def M_value_Mul : FuncId → Bool := fun _ => false
def S_value_Mul : FSp := ⟨[.agg [.i .i64, .i .i64, .s], .agg [.i .i64, .i .i64, .s]], [], [], [([.agg [.i .i64, .i .i64, .s], .one (.b)], [])]⟩
noncomputable def m_value_Mul : List U → Rt
  | [.i v0, .i v1, .s v2, .i v3, .i v4, .s v5] =>
    (.test (v0 == (0 : Int))
    (.stop 0 [.i ((0 : Int)), .i ((0 : Int)), .s ({ data := #[] }), .b true])
    (.test (v3 == (0 : Int))
    (.stop 0 [.i ((0 : Int)), .i ((0 : Int)), .s ({ data := #[] }), .b true])
    (.test (v0 != (2 : Int))
    (.stop 0 [.i ((0 : Int)), .i ((0 : Int)), .s ({ data := #[] }), .b false])
    (.test (v3 != (2 : Int))
    (.stop 0 [.i ((0 : Int)), .i ((0 : Int)), .s ({ data := #[] }), .b false])
    (let r0 : Rs := (Rt.res (m_value_amount [U.i v1]))
    (.test (ok r0 0)
    (let r1 : Rs := (Rt.res (m_value_amount [U.i v4]))
    (.test (ok r1 0)
    (.test (inU64 (uI (out r0 0) 0) && inU64 (uI (out r1 0) 0))
    (.test (mulHi (uI (out r0 0) 0) (uI (out r1 0) 0) == (0 : Int))
    (.test (decide (mulLo (uI (out r0 0) 0) (uI (out r1 0) 0) < (9223372036854775808 : Int)))
    (.stop 0 [.i ((2 : Int)), .i (w64 (v1 * v4)), .s ({ data := #[] }), .b true])
    (.test (mulLo (uI (out r0 0) 0) (uI (out r1 0) 0) == (9223372036854775808 : Int))
    (.test (!!decide (v1 < (0 : Int)) == decide (v4 < (0 : Int)))
    (.stop 0 [.i ((0 : Int)), .i ((0 : Int)), .s ({ data := #[] }), .b false])
    (.stop 0 [.i ((2 : Int)), .i (w64 (v1 * v4)), .s ({ data := #[] }), .b true]))
    (.stop 0 [.i ((0 : Int)), .i ((0 : Int)), .s ({ data := #[] }), .b false])))
    (.stop 0 [.i ((0 : Int)), .i ((0 : Int)), .s ({ data := #[] }), .b false]))
    .fail)
    .fail))
    .fail))))))
  | _ => .fail
set_option maxRecDepth 100000 in
theorem q_value_Mul (v0 : Int) (v1 : Int) (v2 : ByteArray) (v3 : Int) (v4 : Int) (v5 : ByteArray) : callK br Tryd.prog X6 M_value_Mul L_value_Mul (lsT []) 60 26 (encs [.i v0, .i v1, .s v2, .i v3, .i v4, .s v5] 0 S_value_Mul.ap) (encH [.i v0, .i v1, .s v2, .i v3, .i v4, .s v5] (ws S_value_Mul.ap) S_value_Mul.ah) (fun y => fixR Tryd.prog S_value_Mul.plan S_value_Mul.ah.length y) =
    (m_value_Mul [.i v0, .i v1, .s v2, .i v3, .i v4, .s v5]).go br (fun _ => none) S_value_Mul.fin := by
  rw [← callF_eq]; kernel_rfl
theorem e_value_Mul : EOK Tryd.prog 26 (gF S_value_Mul m_value_Mul) :=
  eokTold mixed named x6 (loopsOK_list rids noneIn) 60 S_value_Mul m_value_Mul (by
    intro us v h; unfold m_value_Mul at h; split at h
    · rename_i v0 v1 v2 v3 v4 v5; exact q_value_Mul v0 v1 v2 v3 v4 v5
    · cases h) false
noncomputable abbrev X7 : Ext := extT [(26, (gF S_value_Mul m_value_Mul))] X6
theorem x7 : XOK Tryd.prog X7 := xok1 x6 e_value_Mul

/-- slices.Index[[]levee/api.Value,levee/api.Value] -/
def L_slices_Index_ : FuncId → Nat → Option (List Nat) := liveT [(84, 2, [0, 3, 7, 8]), (84, 1000002, []), (84, 2000002, [4])]
def M_slices_Index_ : FuncId → Bool := fun _ => false
noncomputable def rd_slices_Index__84_2 : List U → Rt
  | [.l v0, .i v1, .i v2, .i v3, .i v4, .s v5] =>
    (.test (decide (v2 < v1))
    (.test (inR v2 (ln v0))
    (.test (v3 == cI (el v0 v2) 0 && (v4 == cI (el v0 v2) 1 && (ByteArray.toList v5 == ByteArray.toList (cS (el v0 v2) 2) && true)))
    (.stop 0 [.i v2])
    (.next [.l v0, .i v1, .i (w64 (v2 + (1 : Int))), .i v3, .i v4, .s v5]))
    .fail)
    (.stop 1 []))
  | _ => .fail
def sp_slices_Index__84_2 : LSp := ⟨19, ⟨[(0, .one (.l 25)), (3, .one (.ptr 0 0)), (7, .one (.i .i64)), (8, .one (.i .i64))], [.box 25 [.one (.i .i64), .one (.i .i64), .one (.s)]]⟩, [(.ret, ⟨[(4, .one (.i .i64))], []⟩), (.exit 0, ⟨[], []⟩)]⟩
set_option maxRecDepth 100000 in
theorem rq_slices_Index__84_2 (v0 : List (List PV)) (v1 : Int) (v2 : Int) (v3 : Int) (v4 : Int) (v5 : ByteArray) : runK br Tryd.prog (callK br Tryd.prog X7 M_slices_Index_ L_slices_Index_ (lsT []) 40) M_slices_Index_ (lsT [] 84 0) 40 0 (L_slices_Index_ 84) (bodyOf Tryd.prog 84 2) (sp_slices_Index__84_2.s.ts sp_slices_Index__84_2.n [.l v0, .i v1, .i v2, .i v3, .i v4, .s v5]) (sp_slices_Index__84_2.s.h [.l v0, .i v1, .i v2, .i v3, .i v4, .s v5]) (idc Tryd.prog 0 (L_slices_Index_ 84) 2) =
    (rd_slices_Index__84_2 [.l v0, .i v1, .i v2, .i v3, .i v4, .s v5]).go br (fun us' => some (.normal, sp_slices_Index__84_2.s.ts sp_slices_Index__84_2.n us', sp_slices_Index__84_2.s.h us')) sp_slices_Index__84_2.fin := by
  rw [← callF_eq, ← runF_eq]; kernel_rfl
theorem lo_slices_Index__84_2 {R : Type} : LoopTells Tryd.prog X7 M_slices_Index_ L_slices_Index_ 0 (L_slices_Index_ 84) (bodyOf Tryd.prog 84 2) (gL (R := R) sp_slices_Index__84_2 rd_slices_Index__84_2 br) :=
  loopTold (callK_ev (loopsOK_list rids noneIn) 40) (lsokIn (loopsOK_list rids noneIn) 84 0 2) (by kernel_rfl) sp_slices_Index__84_2 rd_slices_Index__84_2 rfl (by kernel_rfl) (by
    intro us v h; unfold rd_slices_Index__84_2 at h; split at h
    · rename_i v0 v1 v2 v3 v4 v5; exact rq_slices_Index__84_2 v0 v1 v2 v3 v4 v5
    · cases h)
noncomputable abbrev ll_slices_Index__84_2 {R : Type} : List (Nat × Nat × Nat × Smy R) := (84, 0, 2, gL sp_slices_Index__84_2 rd_slices_Index__84_2 br) :: []
theorem lk_slices_Index__84_2 {R : Type} : ∀ e ∈ ll_slices_Index__84_2 (R := R), LoopTells Tryd.prog X7 M_slices_Index_ L_slices_Index_ e.2.1 (L_slices_Index_ e.1) (bodyOf Tryd.prog e.1 e.2.2.1) e.2.2.2 := List.forall_mem_cons.2 ⟨lo_slices_Index__84_2, noneIn⟩
def S_slices_Index_ : FSp := ⟨[.one (.l 25), .agg [.i .i64, .i .i64, .s]], [], [], [([.one (.i .i64)], [])]⟩
noncomputable def m_slices_Index_ : List U → Rt
  | [.l v0, .i v1, .i v2, .s v3] =>
    (let r0 : Rs := (lres rd_slices_Index__84_2 [U.l v0, U.i (ln v0), U.i (0 : Int), U.i v1, U.i v2, U.s v3])
    (.test (ok r0 0)
    (.stop 0 [.i (uI (out r0 0) 0)])
    (.test (ok r0 1)
    (.stop 0 [.i ((-1 : Int))])
    .fail)))
  | _ => .fail
set_option maxRecDepth 100000 in
theorem q_slices_Index_ (v0 : List (List PV)) (v1 : Int) (v2 : Int) (v3 : ByteArray) : callK br Tryd.prog X7 M_slices_Index_ L_slices_Index_ (lsT ll_slices_Index__84_2) 60 84 (encs [.l v0, .i v1, .i v2, .s v3] 0 S_slices_Index_.ap) (encH [.l v0, .i v1, .i v2, .s v3] (ws S_slices_Index_.ap) S_slices_Index_.ah) (fun y => fixR Tryd.prog S_slices_Index_.plan S_slices_Index_.ah.length y) =
    (m_slices_Index_ [.l v0, .i v1, .i v2, .s v3]).go br (fun _ => none) S_slices_Index_.fin := by
  rw [← callF_eq]; kernel_rfl
theorem e_slices_Index_ : EOK Tryd.prog 84 (gF S_slices_Index_ m_slices_Index_) :=
  eokTold mixed named x7 (loopsOK_list rids lk_slices_Index__84_2) 60 S_slices_Index_ m_slices_Index_ (by
    intro us v h; unfold m_slices_Index_ at h; split at h
    · rename_i v0 v1 v2 v3; exact q_slices_Index_ v0 v1 v2 v3
    · cases h) false
noncomputable abbrev X8 : Ext := extT [(84, (gF S_slices_Index_ m_slices_Index_))] X7
theorem x8 : XOK Tryd.prog X8 := xok1 x7 e_slices_Index_

/-- slices.Contains[[]levee/api.Value,levee/api.Value] -/
def L_slices_Contains_ : FuncId → Nat → Option (List Nat) := liveT []
def M_slices_Contains_ : FuncId → Bool := fun _ => false
def S_slices_Contains_ : FSp := ⟨[.one (.l 25), .agg [.i .i64, .i .i64, .s]], [], [], [([.one (.b)], [])]⟩
noncomputable def m_slices_Contains_ : List U → Rt
  | [.l v0, .i v1, .i v2, .s v3] =>
    (let r0 : Rs := (Rt.res (m_slices_Index_ [U.l v0, U.i v1, U.i v2, U.s v3]))
    (.test (ok r0 0)
    (.stop 0 [.b (decide (uI (out r0 0) 0 ≥ (0 : Int)))])
    .fail))
  | _ => .fail
set_option maxRecDepth 100000 in
theorem q_slices_Contains_ (v0 : List (List PV)) (v1 : Int) (v2 : Int) (v3 : ByteArray) : callK br Tryd.prog X8 M_slices_Contains_ L_slices_Contains_ (lsT []) 60 68 (encs [.l v0, .i v1, .i v2, .s v3] 0 S_slices_Contains_.ap) (encH [.l v0, .i v1, .i v2, .s v3] (ws S_slices_Contains_.ap) S_slices_Contains_.ah) (fun y => fixR Tryd.prog S_slices_Contains_.plan S_slices_Contains_.ah.length y) =
    (m_slices_Contains_ [.l v0, .i v1, .i v2, .s v3]).go br (fun _ => none) S_slices_Contains_.fin := by
  rw [← callF_eq]; kernel_rfl
theorem e_slices_Contains_ : EOK Tryd.prog 68 (gF S_slices_Contains_ m_slices_Contains_) :=
  eokTold mixed named x8 (loopsOK_list rids noneIn) 60 S_slices_Contains_ m_slices_Contains_ (by
    intro us v h; unfold m_slices_Contains_ at h; split at h
    · rename_i v0 v1 v2 v3; exact q_slices_Contains_ v0 v1 v2 v3
    · cases h) false
noncomputable abbrev X9 : Ext := extT [(68, (gF S_slices_Contains_ m_slices_Contains_))] X8
theorem x9 : XOK Tryd.prog X9 := xok1 x8 e_slices_Contains_

/-- levee/value.fold -/
def L_value_fold : FuncId → Nat → Option (List Nat) := liveT [(85, 2, [0, 1, 7, 8]), (85, 1000002, []), (85, 2000002, [4])]
def M_value_fold : FuncId → Bool := fun _ => false
noncomputable def rd_value_fold_85_2 : List U → Rt
  | [.l v0, .i v1, .i v2, .i v3, .i v4, .s v5] =>
    (.test (decide (v2 < v1))
    (.test (inR v2 (ln v0))
    (.test (!(cI (el v0 v2) 0 == v3 && (cI (el v0 v2) 1 == v4 && (ByteArray.toList (cS (el v0 v2) 2) == ByteArray.toList v5 && true))))
    (.stop 0 [.i v2, .i v3, .i v4, .s v5])
    (.next [.l v0, .i v1, .i (w64 (v2 + (1 : Int))), .i v3, .i v4, .s v5]))
    .fail)
    (.stop 1 [.i v3, .i v4, .s v5]))
  | _ => .fail
def sp_value_fold_85_2 : LSp := ⟨19, ⟨[(0, .one (.l 25)), (1, .fn 70 [.ptr 0 0]), (7, .one (.i .i64)), (8, .one (.i .i64))], [.box 25 [.one (.i .i64), .one (.i .i64), .one (.s)]]⟩, [(.ret, ⟨[(4, .one (.i .i64))], [.box 25 [.one (.i .i64), .one (.i .i64), .one (.s)]]⟩), (.exit 0, ⟨[], [.box 25 [.one (.i .i64), .one (.i .i64), .one (.s)]]⟩)]⟩
set_option maxRecDepth 100000 in
theorem rq_value_fold_85_2 (v0 : List (List PV)) (v1 : Int) (v2 : Int) (v3 : Int) (v4 : Int) (v5 : ByteArray) : runK br Tryd.prog (callK br Tryd.prog X9 M_value_fold L_value_fold (lsT []) 40) M_value_fold (lsT [] 85 1) 40 1 (L_value_fold 85) (bodyOf Tryd.prog 85 2) (sp_value_fold_85_2.s.ts sp_value_fold_85_2.n [.l v0, .i v1, .i v2, .i v3, .i v4, .s v5]) (sp_value_fold_85_2.s.h [.l v0, .i v1, .i v2, .i v3, .i v4, .s v5]) (idc Tryd.prog 1 (L_value_fold 85) 2) =
    (rd_value_fold_85_2 [.l v0, .i v1, .i v2, .i v3, .i v4, .s v5]).go br (fun us' => some (.normal, sp_value_fold_85_2.s.ts sp_value_fold_85_2.n us', sp_value_fold_85_2.s.h us')) sp_value_fold_85_2.fin := by
  rw [← callF_eq, ← runF_eq]; kernel_rfl
theorem lo_value_fold_85_2 {R : Type} : LoopTells Tryd.prog X9 M_value_fold L_value_fold 1 (L_value_fold 85) (bodyOf Tryd.prog 85 2) (gL (R := R) sp_value_fold_85_2 rd_value_fold_85_2 br) :=
  loopTold (callK_ev (loopsOK_list rids noneIn) 40) (lsokIn (loopsOK_list rids noneIn) 85 1 2) (by kernel_rfl) sp_value_fold_85_2 rd_value_fold_85_2 rfl (by kernel_rfl) (by
    intro us v h; unfold rd_value_fold_85_2 at h; split at h
    · rename_i v0 v1 v2 v3 v4 v5; exact rq_value_fold_85_2 v0 v1 v2 v3 v4 v5
    · cases h)
noncomputable abbrev ll_value_fold_85_2 {R : Type} : List (Nat × Nat × Nat × Smy R) := (85, 1, 2, gL sp_value_fold_85_2 rd_value_fold_85_2 br) :: []
theorem lk_value_fold_85_2 {R : Type} : ∀ e ∈ ll_value_fold_85_2 (R := R), LoopTells Tryd.prog X9 M_value_fold L_value_fold e.2.1 (L_value_fold e.1) (bodyOf Tryd.prog e.1 e.2.2.1) e.2.2.2 := List.forall_mem_cons.2 ⟨lo_value_fold_85_2, noneIn⟩
def S_value_fold : FSp := ⟨[.one (.b), .one (.l 25)], [], [], [([.agg [.i .i64, .i .i64, .s]], [])]⟩
noncomputable def m_value_fold : List U → Rt
  | [.b v0, .l v1] =>
    (let r0 : Rs := (Rt.res (m_value_Truth [U.b v0]))
    (.test (ok r0 0)
    (let r1 : Rs := (Rt.res (m_value_Truth [U.b !v0]))
    (.test (ok r1 0)
    (let r2 : Rs := (Rt.res (m_slices_Contains_ [U.l v1, U.i (uI (out r0 0) 0), U.i (uI (out r0 0) 1), U.s (uS (out r0 0) 2)]))
    (.test (ok r2 0)
    (.test (uB (out r2 0) 0)
    (.stop 0 [.i (uI (out r0 0) 0), .i (uI (out r0 0) 1), .s (uS (out r0 0) 2)])
    (let r3 : Rs := (lres rd_value_fold_85_2 [U.l v1, U.i (ln v1), U.i (0 : Int), U.i (uI (out r1 0) 0), U.i (uI (out r1 0) 1), U.s (uS (out r1 0) 2)])
    (.test (ok r3 0)
    (.test (decide (uI (out r3 0) 0 ≥ (0 : Int)))
    (.stop 0 [.i ((0 : Int)), .i ((0 : Int)), .s ({ data := #[] })])
    (.stop 0 [.i (uI (out r3 0) 1), .i (uI (out r3 0) 2), .s (uS (out r3 0) 3)]))
    (.test (ok r3 1)
    (.stop 0 [.i (uI (out r3 1) 0), .i (uI (out r3 1) 1), .s (uS (out r3 1) 2)])
    .fail))))
    .fail))
    .fail))
    .fail))
  | _ => .fail
set_option maxRecDepth 100000 in
theorem q_value_fold (v0 : Bool) (v1 : List (List PV)) : callK br Tryd.prog X9 M_value_fold L_value_fold (lsT ll_value_fold_85_2) 60 46 (encs [.b v0, .l v1] 0 S_value_fold.ap) (encH [.b v0, .l v1] (ws S_value_fold.ap) S_value_fold.ah) (fun y => fixR Tryd.prog S_value_fold.plan S_value_fold.ah.length y) =
    (m_value_fold [.b v0, .l v1]).go br (fun _ => none) S_value_fold.fin := by
  rw [← callF_eq]; kernel_rfl
theorem e_value_fold : EOK Tryd.prog 46 (gF S_value_fold m_value_fold) :=
  eokTold mixed named x9 (loopsOK_list rids lk_value_fold_85_2) 60 S_value_fold m_value_fold (by
    intro us v h; unfold m_value_fold at h; split at h
    · rename_i v0 v1; exact q_value_fold v0 v1
    · cases h) false
noncomputable abbrev X10 : Ext := extT [(46, (gF S_value_fold m_value_fold))] X9
theorem x10 : XOK Tryd.prog X10 := xok1 x9 e_value_fold

/-- levee/value.And -/
def L_value_And : FuncId → Nat → Option (List Nat) := liveT []
def M_value_And : FuncId → Bool := fun _ => false
def S_value_And : FSp := ⟨[.one (.l 25)], [], [], [([.agg [.i .i64, .i .i64, .s]], [])]⟩
noncomputable def m_value_And : List U → Rt
  | [.l v0] =>
    (let r0 : Rs := (Rt.res (m_value_fold [U.b false, U.l v0]))
    (.test (ok r0 0)
    (.stop 0 [.i (uI (out r0 0) 0), .i (uI (out r0 0) 1), .s (uS (out r0 0) 2)])
    .fail))
  | _ => .fail
set_option maxRecDepth 100000 in
theorem q_value_And (v0 : List (List PV)) : callK br Tryd.prog X10 M_value_And L_value_And (lsT []) 60 17 (encs [.l v0] 0 S_value_And.ap) (encH [.l v0] (ws S_value_And.ap) S_value_And.ah) (fun y => fixR Tryd.prog S_value_And.plan S_value_And.ah.length y) =
    (m_value_And [.l v0]).go br (fun _ => none) S_value_And.fin := by
  rw [← callF_eq]; kernel_rfl
theorem e_value_And : EOK Tryd.prog 17 (gF S_value_And m_value_And) :=
  eokTold mixed named x10 (loopsOK_list rids noneIn) 60 S_value_And m_value_And (by
    intro us v h; unfold m_value_And at h; split at h
    · rename_i v0; exact q_value_And v0
    · cases h) false
noncomputable abbrev X11 : Ext := extT [(17, (gF S_value_And m_value_And))] X10
theorem x11 : XOK Tryd.prog X11 := xok1 x10 e_value_And

/-- levee/value.Or -/
def L_value_Or : FuncId → Nat → Option (List Nat) := liveT []
def M_value_Or : FuncId → Bool := fun _ => false
def S_value_Or : FSp := ⟨[.one (.l 25)], [], [], [([.agg [.i .i64, .i .i64, .s]], [])]⟩
noncomputable def m_value_Or : List U → Rt
  | [.l v0] =>
    (let r0 : Rs := (Rt.res (m_value_fold [U.b true, U.l v0]))
    (.test (ok r0 0)
    (.stop 0 [.i (uI (out r0 0) 0), .i (uI (out r0 0) 1), .s (uS (out r0 0) 2)])
    .fail))
  | _ => .fail
set_option maxRecDepth 100000 in
theorem q_value_Or (v0 : List (List PV)) : callK br Tryd.prog X11 M_value_Or L_value_Or (lsT []) 60 19 (encs [.l v0] 0 S_value_Or.ap) (encH [.l v0] (ws S_value_Or.ap) S_value_Or.ah) (fun y => fixR Tryd.prog S_value_Or.plan S_value_Or.ah.length y) =
    (m_value_Or [.l v0]).go br (fun _ => none) S_value_Or.fin := by
  rw [← callF_eq]; kernel_rfl
theorem e_value_Or : EOK Tryd.prog 19 (gF S_value_Or m_value_Or) :=
  eokTold mixed named x11 (loopsOK_list rids noneIn) 60 S_value_Or m_value_Or (by
    intro us v h; unfold m_value_Or at h; split at h
    · rename_i v0; exact q_value_Or v0
    · cases h) false
noncomputable abbrev X12 : Ext := extT [(19, (gF S_value_Or m_value_Or))] X11
theorem x12 : XOK Tryd.prog X12 := xok1 x11 e_value_Or

/-- levee/value.Not -/
def L_value_Not : FuncId → Nat → Option (List Nat) := liveT []
def M_value_Not : FuncId → Bool := fun _ => false
def S_value_Not : FSp := ⟨[.agg [.i .i64, .i .i64, .s]], [], [], [([.agg [.i .i64, .i .i64, .s]], [])]⟩
noncomputable def m_value_Not : List U → Rt
  | [.i v0, .i v1, .s v2] =>
    (.test (v0 == (1 : Int) && (v1 == (1 : Int) && (ByteArray.toList v2 == [] && true)))
    (.stop 0 [.i ((1 : Int)), .i ((0 : Int)), .s ({ data := #[] })])
    (.test (v0 == (1 : Int) && (v1 == (0 : Int) && (ByteArray.toList v2 == [] && true)))
    (.stop 0 [.i ((1 : Int)), .i ((1 : Int)), .s ({ data := #[] })])
    (.stop 0 [.i ((0 : Int)), .i ((0 : Int)), .s ({ data := #[] })])))
  | _ => .fail
set_option maxRecDepth 100000 in
theorem q_value_Not (v0 : Int) (v1 : Int) (v2 : ByteArray) : callK br Tryd.prog X12 M_value_Not L_value_Not (lsT []) 60 15 (encs [.i v0, .i v1, .s v2] 0 S_value_Not.ap) (encH [.i v0, .i v1, .s v2] (ws S_value_Not.ap) S_value_Not.ah) (fun y => fixR Tryd.prog S_value_Not.plan S_value_Not.ah.length y) =
    (m_value_Not [.i v0, .i v1, .s v2]).go br (fun _ => none) S_value_Not.fin := by
  rw [← callF_eq]; kernel_rfl
theorem e_value_Not : EOK Tryd.prog 15 (gF S_value_Not m_value_Not) :=
  eokTold mixed named x12 (loopsOK_list rids noneIn) 60 S_value_Not m_value_Not (by
    intro us v h; unfold m_value_Not at h; split at h
    · rename_i v0 v1 v2; exact q_value_Not v0 v1 v2
    · cases h) false
noncomputable abbrev X13 : Ext := extT [(15, (gF S_value_Not m_value_Not))] X12
theorem x13 : XOK Tryd.prog X13 := xok1 x12 e_value_Not

/-- internal/strconv.FormatBool -/
def L_strconv_FormatBool : FuncId → Nat → Option (List Nat) := liveT []
def M_strconv_FormatBool : FuncId → Bool := fun _ => false
def S_strconv_FormatBool : FSp := ⟨[.one (.b)], [], [], [([.one (.s)], [])]⟩
noncomputable def m_strconv_FormatBool : List U → Rt
  | [.b v0] =>
    (.test v0
    (.stop 0 [.s ({ data := #[(116 : UInt8), (114 : UInt8), (117 : UInt8), (101 : UInt8)] })])
    (.stop 0 [.s ({ data := #[(102 : UInt8), (97 : UInt8), (108 : UInt8), (115 : UInt8), (101 : UInt8)] })]))
  | _ => .fail
set_option maxRecDepth 100000 in
theorem q_strconv_FormatBool (v0 : Bool) : callK br Tryd.prog X13 M_strconv_FormatBool L_strconv_FormatBool (lsT []) 60 73 (encs [.b v0] 0 S_strconv_FormatBool.ap) (encH [.b v0] (ws S_strconv_FormatBool.ap) S_strconv_FormatBool.ah) (fun y => fixR Tryd.prog S_strconv_FormatBool.plan S_strconv_FormatBool.ah.length y) =
    (m_strconv_FormatBool [.b v0]).go br (fun _ => none) S_strconv_FormatBool.fin := by
  rw [← callF_eq]; kernel_rfl
theorem e_strconv_FormatBool : EOK Tryd.prog 73 (gF S_strconv_FormatBool m_strconv_FormatBool) :=
  eokTold mixed named x13 (loopsOK_list rids noneIn) 60 S_strconv_FormatBool m_strconv_FormatBool (by
    intro us v h; unfold m_strconv_FormatBool at h; split at h
    · rename_i v0; exact q_strconv_FormatBool v0
    · cases h) false
noncomputable abbrev X14 : Ext := extT [(73, (gF S_strconv_FormatBool m_strconv_FormatBool))] X13
theorem x14 : XOK Tryd.prog X14 := xok1 x13 e_strconv_FormatBool

/-- levee/value.Text -/
def L_value_Text : FuncId → Nat → Option (List Nat) := liveT []
def M_value_Text : FuncId → Bool := fun _ => false
def S_value_Text : FSp := ⟨[.agg [.i .i64, .i .i64, .s]], [], [], [([.one (.s)], [])]⟩
noncomputable def m_value_Text : List U → Rt
  | [.i v0, .i v1, .s v2] =>
    (.test (v0 == (0 : Int))
    (.stop 0 [.s ({ data := #[(110 : UInt8), (117 : UInt8), (108 : UInt8), (108 : UInt8)] })])
    (.test (v0 == (1 : Int))
    (let r0 : Rs := (Rt.res (m_strconv_FormatBool [U.b (v1 != (0 : Int))]))
    (.test (ok r0 0)
    (.stop 0 [.s (uS (out r0 0) 0)])
    .fail))
    (.test (v0 == (2 : Int))
    (.test (inI64 v1)
    (.stop 0 [.s (itoaB v1)])
    .fail)
    (.test (v0 == (3 : Int))
    (.test (replOk v2 { data := #[(39 : UInt8)] } { data := #[(39 : UInt8), (39 : UInt8)] })
    (.test (decide (1 + ByteArray.size (replB v2 { data := #[(39 : UInt8)] } { data := #[(39 : UInt8), (39 : UInt8)] }) ≤ 9223372036854775807))
    (.test (decide (ByteArray.size ({ data := #[(39 : UInt8)] } ++ replB v2 { data := #[(39 : UInt8)] } { data := #[(39 : UInt8), (39 : UInt8)] }) + 1 ≤ 9223372036854775807))
    (.stop 0 [.s ({ data := #[(39 : UInt8)] } ++ replB v2 { data := #[(39 : UInt8)] } { data := #[(39 : UInt8), (39 : UInt8)] } ++ { data := #[(39 : UInt8)] })])
    .fail)
    .fail)
    .fail)
    (.stop 0 [.s ({ data := #[(63 : UInt8)] })])))))
  | _ => .fail
set_option maxRecDepth 100000 in
theorem q_value_Text (v0 : Int) (v1 : Int) (v2 : ByteArray) : callK br Tryd.prog X14 M_value_Text L_value_Text (lsT []) 60 28 (encs [.i v0, .i v1, .s v2] 0 S_value_Text.ap) (encH [.i v0, .i v1, .s v2] (ws S_value_Text.ap) S_value_Text.ah) (fun y => fixR Tryd.prog S_value_Text.plan S_value_Text.ah.length y) =
    (m_value_Text [.i v0, .i v1, .s v2]).go br (fun _ => none) S_value_Text.fin := by
  rw [← callF_eq]; kernel_rfl
theorem e_value_Text : EOK Tryd.prog 28 (gF S_value_Text m_value_Text) :=
  eokTold mixed named x14 (loopsOK_list rids noneIn) 60 S_value_Text m_value_Text (by
    intro us v h; unfold m_value_Text at h; split at h
    · rename_i v0 v1 v2; exact q_value_Text v0 v1 v2
    · cases h) false
noncomputable abbrev X15 : Ext := extT [(28, (gF S_value_Text m_value_Text))] X14
theorem x15 : XOK Tryd.prog X15 := xok1 x14 e_value_Text

/-- cmp.isNaN[int] -/
def L_cmp_isNaN_int : FuncId → Nat → Option (List Nat) := liveT []
def M_cmp_isNaN_int : FuncId → Bool := fun _ => false
def S_cmp_isNaN_int : FSp := ⟨[.one (.i .i64)], [], [], [([.one (.b)], [])]⟩
noncomputable def m_cmp_isNaN_int : List U → Rt
  | [.i v0] =>
    (.stop 0 [.b (v0 != v0)])
  | _ => .fail
set_option maxRecDepth 100000 in
theorem q_cmp_isNaN_int (v0 : Int) : callK br Tryd.prog X15 M_cmp_isNaN_int L_cmp_isNaN_int (lsT []) 60 71 (encs [.i v0] 0 S_cmp_isNaN_int.ap) (encH [.i v0] (ws S_cmp_isNaN_int.ap) S_cmp_isNaN_int.ah) (fun y => fixR Tryd.prog S_cmp_isNaN_int.plan S_cmp_isNaN_int.ah.length y) =
    (m_cmp_isNaN_int [.i v0]).go br (fun _ => none) S_cmp_isNaN_int.fin := by
  rw [← callF_eq]; kernel_rfl
theorem e_cmp_isNaN_int : EOK Tryd.prog 71 (gI S_cmp_isNaN_int m_cmp_isNaN_int) :=
  eokTold mixed named x15 (loopsOK_list rids noneIn) 60 S_cmp_isNaN_int m_cmp_isNaN_int (by
    intro us v h; unfold m_cmp_isNaN_int at h; split at h
    · rename_i v0; exact q_cmp_isNaN_int v0
    · cases h) true
noncomputable abbrev X16 : Ext := extT [(71, (gI S_cmp_isNaN_int m_cmp_isNaN_int))] X15
theorem x16 : XOK Tryd.prog X16 := xok1 x15 e_cmp_isNaN_int

/-- cmp.Compare[int] -/
def L_cmp_Compare_int : FuncId → Nat → Option (List Nat) := liveT []
def M_cmp_Compare_int : FuncId → Bool := fun _ => false
def S_cmp_Compare_int : FSp := ⟨[.one (.i .i64), .one (.i .i64)], [], [], [([.one (.i .i64)], [])]⟩
noncomputable def m_cmp_Compare_int : List U → Rt
  | [.i v0, .i v1] =>
    (.test (v0 != v0)
    (.test (v1 != v1)
    (.stop 0 [.i ((0 : Int))])
    (.stop 0 [.i ((-1 : Int))]))
    (.test (v1 != v1)
    (.stop 0 [.i ((1 : Int))])
    (.test (decide (v0 < v1))
    (.stop 0 [.i ((-1 : Int))])
    (.test (decide (v0 > v1))
    (.stop 0 [.i ((1 : Int))])
    (.stop 0 [.i ((0 : Int))])))))
  | _ => .fail
set_option maxRecDepth 100000 in
theorem q_cmp_Compare_int (v0 : Int) (v1 : Int) : callK br Tryd.prog X16 M_cmp_Compare_int L_cmp_Compare_int (lsT []) 60 48 (encs [.i v0, .i v1] 0 S_cmp_Compare_int.ap) (encH [.i v0, .i v1] (ws S_cmp_Compare_int.ap) S_cmp_Compare_int.ah) (fun y => fixR Tryd.prog S_cmp_Compare_int.plan S_cmp_Compare_int.ah.length y) =
    (m_cmp_Compare_int [.i v0, .i v1]).go br (fun _ => none) S_cmp_Compare_int.fin := by
  rw [← callF_eq]; kernel_rfl
theorem e_cmp_Compare_int : EOK Tryd.prog 48 (gF S_cmp_Compare_int m_cmp_Compare_int) :=
  eokTold mixed named x16 (loopsOK_list rids noneIn) 60 S_cmp_Compare_int m_cmp_Compare_int (by
    intro us v h; unfold m_cmp_Compare_int at h; split at h
    · rename_i v0 v1; exact q_cmp_Compare_int v0 v1
    · cases h) false
noncomputable abbrev X17 : Ext := extT [(48, (gF S_cmp_Compare_int m_cmp_Compare_int))] X16
theorem x17 : XOK Tryd.prog X17 := xok1 x16 e_cmp_Compare_int

/-- levee/value.Compare -/
def L_value_Compare : FuncId → Nat → Option (List Nat) := liveT [(47, 3, [3, 6, 7, 8]), (47, 1000003, [3]), (47, 2000003, [2])]
def M_value_Compare : FuncId → Bool := fun _ => false
noncomputable def rd_value_Compare_47_3 : List U → Rt
  | [.i v0, .l v1, .i v2, .i v3] =>
    (.test (decide (v3 < v2))
    (.test (inR v3 (ln v1))
    (.test (cI (el v1 v3) 0 != v0)
    (.stop 0 [.i (cI (el v1 v3) 0)])
    (.next [.i v0, .l v1, .i v2, .i (w64 (v3 + (1 : Int)))]))
    .fail)
    (.stop 1 [.i v0]))
  | _ => .fail
def sp_value_Compare_47_3 : LSp := ⟨18, ⟨[(3, .one (.i .i64)), (6, .one (.l 3)), (7, .one (.i .i64)), (8, .one (.i .i64))], []⟩, [(.ret, ⟨[(2, .one (.i .i64))], []⟩), (.exit 0, ⟨[(3, .one (.i .i64))], []⟩)]⟩
set_option maxRecDepth 100000 in
theorem rq_value_Compare_47_3 (v0 : Int) (v1 : List (List PV)) (v2 : Int) (v3 : Int) : runK br Tryd.prog (callK br Tryd.prog X17 M_value_Compare L_value_Compare (lsT []) 40) M_value_Compare (lsT [] 47 0) 40 0 (L_value_Compare 47) (bodyOf Tryd.prog 47 3) (sp_value_Compare_47_3.s.ts sp_value_Compare_47_3.n [.i v0, .l v1, .i v2, .i v3]) (sp_value_Compare_47_3.s.h [.i v0, .l v1, .i v2, .i v3]) (idc Tryd.prog 0 (L_value_Compare 47) 3) =
    (rd_value_Compare_47_3 [.i v0, .l v1, .i v2, .i v3]).go br (fun us' => some (.normal, sp_value_Compare_47_3.s.ts sp_value_Compare_47_3.n us', sp_value_Compare_47_3.s.h us')) sp_value_Compare_47_3.fin := by
  rw [← callF_eq, ← runF_eq]; kernel_rfl
theorem lo_value_Compare_47_3 {R : Type} : LoopTells Tryd.prog X17 M_value_Compare L_value_Compare 0 (L_value_Compare 47) (bodyOf Tryd.prog 47 3) (gL (R := R) sp_value_Compare_47_3 rd_value_Compare_47_3 br) :=
  loopTold (callK_ev (loopsOK_list rids noneIn) 40) (lsokIn (loopsOK_list rids noneIn) 47 0 3) (by kernel_rfl) sp_value_Compare_47_3 rd_value_Compare_47_3 rfl (by kernel_rfl) (by
    intro us v h; unfold rd_value_Compare_47_3 at h; split at h
    · rename_i v0 v1 v2 v3; exact rq_value_Compare_47_3 v0 v1 v2 v3
    · cases h)
noncomputable abbrev ll_value_Compare_47_3 {R : Type} : List (Nat × Nat × Nat × Smy R) := (47, 0, 3, gL sp_value_Compare_47_3 rd_value_Compare_47_3 br) :: []
theorem lk_value_Compare_47_3 {R : Type} : ∀ e ∈ ll_value_Compare_47_3 (R := R), LoopTells Tryd.prog X17 M_value_Compare L_value_Compare e.2.1 (L_value_Compare e.1) (bodyOf Tryd.prog e.1 e.2.2.1) e.2.2.2 := List.forall_mem_cons.2 ⟨lo_value_Compare_47_3, noneIn⟩
def S_value_Compare : FSp := ⟨[.agg [.i .i64, .i .i64, .s], .agg [.i .i64, .i .i64, .s]], [], [], [([.one (.i .i64)], [])]⟩
noncomputable def m_value_Compare : List U → Rt
  | [.i v0, .i v1, .s v2, .i v3, .i v4, .s v5] =>
    (let r0 : Rs := (Rt.res (m_cmp_Compare_int [U.i v0, U.i v3]))
    (.test (ok r0 0)
    (let r1 : Rs := (Rt.res (m_cmp_Compare_int [U.i v1, U.i v4]))
    (.test (ok r1 0)
    (let r2 : Rs := (lres rd_value_Compare_47_3 [U.i (0 : Int), U.l [[pI (uI (out r0 0) 0)], [pI (uI (out r1 0) 0)], [pI (Lib.compareBytes (Array.toList (ByteArray.data v2)) (Array.toList (ByteArray.data v5)))]], U.i (3 : Int), U.i (0 : Int)])
    (.test (ok r2 0)
    (.stop 0 [.i (uI (out r2 0) 0)])
    (.test (ok r2 1)
    (.stop 0 [.i (uI (out r2 1) 0)])
    .fail)))
    .fail))
    .fail))
  | _ => .fail
set_option maxRecDepth 100000 in
theorem q_value_Compare (v0 : Int) (v1 : Int) (v2 : ByteArray) (v3 : Int) (v4 : Int) (v5 : ByteArray) : callK br Tryd.prog X17 M_value_Compare L_value_Compare (lsT ll_value_Compare_47_3) 60 23 (encs [.i v0, .i v1, .s v2, .i v3, .i v4, .s v5] 0 S_value_Compare.ap) (encH [.i v0, .i v1, .s v2, .i v3, .i v4, .s v5] (ws S_value_Compare.ap) S_value_Compare.ah) (fun y => fixR Tryd.prog S_value_Compare.plan S_value_Compare.ah.length y) =
    (m_value_Compare [.i v0, .i v1, .s v2, .i v3, .i v4, .s v5]).go br (fun _ => none) S_value_Compare.fin := by
  rw [← callF_eq]; kernel_rfl
theorem e_value_Compare : EOK Tryd.prog 23 (gF S_value_Compare m_value_Compare) :=
  eokTold mixed named x17 (loopsOK_list rids lk_value_Compare_47_3) 60 S_value_Compare m_value_Compare (by
    intro us v h; unfold m_value_Compare at h; split at h
    · rename_i v0 v1 v2 v3 v4 v5; exact q_value_Compare v0 v1 v2 v3 v4 v5
    · cases h) false
noncomputable abbrev X18 : Ext := extT [(23, (gF S_value_Compare m_value_Compare))] X17
theorem x18 : XOK Tryd.prog X18 := xok1 x17 e_value_Compare

/-- levee/value.May -/
def L_value_May : FuncId → Nat → Option (List Nat) := liveT []
def M_value_May : FuncId → Bool := fun _ => false
def S_value_May : FSp := ⟨[.agg [.i .i64, .i .i64, .s]], [], [], [([.one (.b)], [])]⟩
noncomputable def m_value_May : List U → Rt
  | [.i v0, .i v1, .s v2] =>
    (.test (v0 == (0 : Int))
    (.stop 0 [.b (v0 == (0 : Int) && (v1 == (0 : Int) && (ByteArray.toList v2 == [] && true)))])
    (.test (v0 == (1 : Int))
    (.test (v1 == (0 : Int))
    (.stop 0 [.b (ByteArray.toList v2 == [])])
    (.test (v1 == (1 : Int))
    (.stop 0 [.b (ByteArray.toList v2 == [])])
    (.stop 0 [.b false])))
    (.test (v0 == (2 : Int))
    (.stop 0 [.b (ByteArray.toList v2 == [])])
    (.test (v0 == (3 : Int))
    (.test (v1 == (0 : Int))
    (.stop 0 [.b (decide ((↑(ByteArray.size v2) : Int) ≤ (1000 : Int)))])
    (.stop 0 [.b false]))
    (.stop 0 [.b false])))))
  | _ => .fail
set_option maxRecDepth 100000 in
theorem q_value_May (v0 : Int) (v1 : Int) (v2 : ByteArray) : callK br Tryd.prog X18 M_value_May L_value_May (lsT []) 60 45 (encs [.i v0, .i v1, .s v2] 0 S_value_May.ap) (encH [.i v0, .i v1, .s v2] (ws S_value_May.ap) S_value_May.ah) (fun y => fixR Tryd.prog S_value_May.plan S_value_May.ah.length y) =
    (m_value_May [.i v0, .i v1, .s v2]).go br (fun _ => none) S_value_May.fin := by
  rw [← callF_eq]; kernel_rfl
theorem e_value_May : EOK Tryd.prog 45 (gF S_value_May m_value_May) :=
  eokTold mixed named x18 (loopsOK_list rids noneIn) 60 S_value_May m_value_May (by
    intro us v h; unfold m_value_May at h; split at h
    · rename_i v0 v1 v2; exact q_value_May v0 v1 v2
    · cases h) false
noncomputable abbrev X19 : Ext := extT [(45, (gF S_value_May m_value_May))] X18
theorem x19 : XOK Tryd.prog X19 := xok1 x18 e_value_May

/-- levee/leveelaw01.fixed -/
def L_L01_fixed : FuncId → Nat → Option (List Nat) := liveT []
def M_L01_fixed : FuncId → Bool := fun _ => false
def S_L01_fixed : FSp := ⟨[], [], [], [([.one (.b)], [])]⟩
noncomputable def m_L01_fixed : List U → Rt
  | [] =>
    (.stop 0 [.b true])
  | _ => .fail
set_option maxRecDepth 100000 in
theorem q_L01_fixed : callK br Tryd.prog XD M_L01_fixed L_L01_fixed (lsT []) 60 14 (encs [] 0 S_L01_fixed.ap) (encH [] (ws S_L01_fixed.ap) S_L01_fixed.ah) (fun y => fixR Tryd.prog S_L01_fixed.plan S_L01_fixed.ah.length y) =
    (m_L01_fixed []).go br (fun _ => none) S_L01_fixed.fin := by
  rw [← callF_eq]; kernel_rfl
theorem e_L01_fixed : EOK Tryd.prog 14 (gI S_L01_fixed m_L01_fixed) :=
  eokTold mixed named xD (loopsOK_list rids noneIn) 60 S_L01_fixed m_L01_fixed (by
    intro us v h; unfold m_L01_fixed at h; split at h
    · exact q_L01_fixed
    · cases h) true
noncomputable abbrev X20 : Ext := extT [(14, (gI S_L01_fixed m_L01_fixed))] X19
theorem x20 : XOK Tryd.prog X20 := xok1 x19 e_L01_fixed

/-- levee/leveeref01.Truth -/
def L_R01_Truth : FuncId → Nat → Option (List Nat) := liveT []
def M_R01_Truth : FuncId → Bool := fun _ => false
def S_R01_Truth : FSp := ⟨[.one (.b)], [], [], [([.agg [.i .i64, .i .i64, .s]], [])]⟩
noncomputable def m_R01_Truth : List U → Rt
  | [.b v0] =>
    (.test v0
    (.stop 0 [.i ((1 : Int)), .i ((1 : Int)), .s ({ data := #[] })])
    (.stop 0 [.i ((1 : Int)), .i ((0 : Int)), .s ({ data := #[] })]))
  | _ => .fail
set_option maxRecDepth 100000 in
theorem q_R01_Truth (v0 : Bool) : callK br Tryd.prog X20 M_R01_Truth L_R01_Truth (lsT []) 60 22 (encs [.b v0] 0 S_R01_Truth.ap) (encH [.b v0] (ws S_R01_Truth.ap) S_R01_Truth.ah) (fun y => fixR Tryd.prog S_R01_Truth.plan S_R01_Truth.ah.length y) =
    (m_R01_Truth [.b v0]).go br (fun _ => none) S_R01_Truth.fin := by
  rw [← callF_eq]; kernel_rfl
theorem e_R01_Truth : EOK Tryd.prog 22 (gF S_R01_Truth m_R01_Truth) :=
  eokTold mixed named x20 (loopsOK_list rids noneIn) 60 S_R01_Truth m_R01_Truth (by
    intro us v h; unfold m_R01_Truth at h; split at h
    · rename_i v0; exact q_R01_Truth v0
    · cases h) false
noncomputable abbrev X21 : Ext := extT [(22, (gF S_R01_Truth m_R01_Truth))] X20
theorem x21 : XOK Tryd.prog X21 := xok1 x20 e_R01_Truth

/-- levee/leveeref01.Not -/
def L_R01_Not : FuncId → Nat → Option (List Nat) := liveT []
def M_R01_Not : FuncId → Bool := fun _ => false
def S_R01_Not : FSp := ⟨[.agg [.i .i64, .i .i64, .s]], [], [], [([.agg [.i .i64, .i .i64, .s]], [])]⟩
noncomputable def m_R01_Not : List U → Rt
  | [.i v0, .i v1, .s v2] =>
    (.test (v0 == (1 : Int) && (v1 == (1 : Int) && (ByteArray.toList v2 == [] && true)))
    (.stop 0 [.i ((1 : Int)), .i ((0 : Int)), .s ({ data := #[] })])
    (.test (v0 == (1 : Int) && (v1 == (0 : Int) && (ByteArray.toList v2 == [] && true)))
    (.stop 0 [.i ((1 : Int)), .i ((1 : Int)), .s ({ data := #[] })])
    (.stop 0 [.i ((0 : Int)), .i ((0 : Int)), .s ({ data := #[] })])))
  | _ => .fail
set_option maxRecDepth 100000 in
theorem q_R01_Not (v0 : Int) (v1 : Int) (v2 : ByteArray) : callK br Tryd.prog X21 M_R01_Not L_R01_Not (lsT []) 60 16 (encs [.i v0, .i v1, .s v2] 0 S_R01_Not.ap) (encH [.i v0, .i v1, .s v2] (ws S_R01_Not.ap) S_R01_Not.ah) (fun y => fixR Tryd.prog S_R01_Not.plan S_R01_Not.ah.length y) =
    (m_R01_Not [.i v0, .i v1, .s v2]).go br (fun _ => none) S_R01_Not.fin := by
  rw [← callF_eq]; kernel_rfl
theorem e_R01_Not : EOK Tryd.prog 16 (gF S_R01_Not m_R01_Not) :=
  eokTold mixed named x21 (loopsOK_list rids noneIn) 60 S_R01_Not m_R01_Not (by
    intro us v h; unfold m_R01_Not at h; split at h
    · rename_i v0 v1 v2; exact q_R01_Not v0 v1 v2
    · cases h) false
noncomputable abbrev X22 : Ext := extT [(16, (gF S_R01_Not m_R01_Not))] X21
theorem x22 : XOK Tryd.prog X22 := xok1 x21 e_R01_Not

/-- levee/leveeref01.And -/
def L_R01_And : FuncId → Nat → Option (List Nat) := liveT [(18, 3, [0, 2, 3, 4]), (18, 1000003, [2, 3]), (18, 2000003, [2])]
def M_R01_And : FuncId → Bool := fun _ => false
noncomputable def rd_R01_And_18_3 : List U → Rt
  | [.l v0, .b v1, .i v2, .i v3, .i v4, .s v5] =>
    (.test (decide (v2 < ln v0))
    (.test (inR v2 (ln v0))
    (.test (cI (el v0 v2) 0 == (1 : Int) && (cI (el v0 v2) 1 == (0 : Int) && (ByteArray.toList (cS (el v0 v2) 2) == [] && true)))
    (.stop 0 [.i ((1 : Int)), .i ((0 : Int)), .s ({ data := #[] })])
    (.test v1
    (.test (inR v2 (ln v0))
    (.next [.l v0, .b (cI (el v0 v2) 0 == (1 : Int) && (cI (el v0 v2) 1 == (1 : Int) && (ByteArray.toList (cS (el v0 v2) 2) == [] && true))), .i (w64 (v2 + (1 : Int))), .i v3, .i v4, .s v5])
    .fail)
    (.next [.l v0, .b false, .i (w64 (v2 + (1 : Int))), .i v3, .i v4, .s v5])))
    .fail)
    (.stop 1 [.b v1, .i v3, .i v4, .s v5]))
  | _ => .fail
def sp_R01_And_18_3 : LSp := ⟨30, ⟨[(0, .one (.l 25)), (2, .one (.ptr 0 0)), (3, .one (.b)), (4, .one (.i .i64))], [.box 25 [.one (.i .i64), .one (.i .i64), .one (.s)]]⟩, [(.ret, ⟨[(2, .one (.ptr 0 0))], [.box 25 [.one (.i .i64), .one (.i .i64), .one (.s)]]⟩), (.exit 0, ⟨[(2, .one (.ptr 0 0)), (3, .one (.b))], [.box 25 [.one (.i .i64), .one (.i .i64), .one (.s)]]⟩)]⟩
set_option maxRecDepth 100000 in
theorem rq_R01_And_18_3 (v0 : List (List PV)) (v1 : Bool) (v2 : Int) (v3 : Int) (v4 : Int) (v5 : ByteArray) : runK br Tryd.prog (callK br Tryd.prog X22 M_R01_And L_R01_And (lsT []) 40) M_R01_And (lsT [] 18 0) 40 0 (L_R01_And 18) (bodyOf Tryd.prog 18 3) (sp_R01_And_18_3.s.ts sp_R01_And_18_3.n [.l v0, .b v1, .i v2, .i v3, .i v4, .s v5]) (sp_R01_And_18_3.s.h [.l v0, .b v1, .i v2, .i v3, .i v4, .s v5]) (idc Tryd.prog 0 (L_R01_And 18) 3) =
    (rd_R01_And_18_3 [.l v0, .b v1, .i v2, .i v3, .i v4, .s v5]).go br (fun us' => some (.normal, sp_R01_And_18_3.s.ts sp_R01_And_18_3.n us', sp_R01_And_18_3.s.h us')) sp_R01_And_18_3.fin := by
  rw [← callF_eq, ← runF_eq]; kernel_rfl
theorem lo_R01_And_18_3 {R : Type} : LoopTells Tryd.prog X22 M_R01_And L_R01_And 0 (L_R01_And 18) (bodyOf Tryd.prog 18 3) (gL (R := R) sp_R01_And_18_3 rd_R01_And_18_3 br) :=
  loopTold (callK_ev (loopsOK_list rids noneIn) 40) (lsokIn (loopsOK_list rids noneIn) 18 0 3) (by kernel_rfl) sp_R01_And_18_3 rd_R01_And_18_3 rfl (by kernel_rfl) (by
    intro us v h; unfold rd_R01_And_18_3 at h; split at h
    · rename_i v0 v1 v2 v3 v4 v5; exact rq_R01_And_18_3 v0 v1 v2 v3 v4 v5
    · cases h)
noncomputable abbrev ll_R01_And_18_3 {R : Type} : List (Nat × Nat × Nat × Smy R) := (18, 0, 3, gL sp_R01_And_18_3 rd_R01_And_18_3 br) :: []
theorem lk_R01_And_18_3 {R : Type} : ∀ e ∈ ll_R01_And_18_3 (R := R), LoopTells Tryd.prog X22 M_R01_And L_R01_And e.2.1 (L_R01_And e.1) (bodyOf Tryd.prog e.1 e.2.2.1) e.2.2.2 := List.forall_mem_cons.2 ⟨lo_R01_And_18_3, noneIn⟩
def S_R01_And : FSp := ⟨[.one (.l 25)], [], [], [([.agg [.i .i64, .i .i64, .s]], [])]⟩
noncomputable def m_R01_And : List U → Rt
  | [.l v0] =>
    (let r0 : Rs := (lres rd_R01_And_18_3 [U.l v0, U.b true, U.i (0 : Int), U.i (0 : Int), U.i (0 : Int), U.s { data := #[] }])
    (.test (ok r0 0)
    (.stop 0 [.i (uI (out r0 0) 0), .i (uI (out r0 0) 1), .s (uS (out r0 0) 2)])
    (.test (ok r0 1)
    (.test (uB (out r0 1) 0)
    (.stop 0 [.i ((1 : Int)), .i ((1 : Int)), .s ({ data := #[] })])
    (.stop 0 [.i ((0 : Int)), .i ((0 : Int)), .s ({ data := #[] })]))
    .fail)))
  | _ => .fail
set_option maxRecDepth 100000 in
theorem q_R01_And (v0 : List (List PV)) : callK br Tryd.prog X22 M_R01_And L_R01_And (lsT ll_R01_And_18_3) 60 18 (encs [.l v0] 0 S_R01_And.ap) (encH [.l v0] (ws S_R01_And.ap) S_R01_And.ah) (fun y => fixR Tryd.prog S_R01_And.plan S_R01_And.ah.length y) =
    (m_R01_And [.l v0]).go br (fun _ => none) S_R01_And.fin := by
  rw [← callF_eq]; kernel_rfl
theorem e_R01_And : EOK Tryd.prog 18 (gF S_R01_And m_R01_And) :=
  eokTold mixed named x22 (loopsOK_list rids lk_R01_And_18_3) 60 S_R01_And m_R01_And (by
    intro us v h; unfold m_R01_And at h; split at h
    · rename_i v0; exact q_R01_And v0
    · cases h) false
noncomputable abbrev X23 : Ext := extT [(18, (gF S_R01_And m_R01_And))] X22
theorem x23 : XOK Tryd.prog X23 := xok1 x22 e_R01_And

/-- levee/leveeref01.Or -/
def L_R01_Or : FuncId → Nat → Option (List Nat) := liveT [(20, 3, [0, 2, 3, 4]), (20, 1000003, [2, 3]), (20, 2000003, [2])]
def M_R01_Or : FuncId → Bool := fun _ => false
noncomputable def rd_R01_Or_20_3 : List U → Rt
  | [.l v0, .b v1, .i v2, .i v3, .i v4, .s v5] =>
    (.test (decide (v2 < ln v0))
    (.test (inR v2 (ln v0))
    (.test (cI (el v0 v2) 0 == (1 : Int) && (cI (el v0 v2) 1 == (1 : Int) && (ByteArray.toList (cS (el v0 v2) 2) == [] && true)))
    (.stop 0 [.i ((1 : Int)), .i ((1 : Int)), .s ({ data := #[] })])
    (.test v1
    (.test (inR v2 (ln v0))
    (.next [.l v0, .b (cI (el v0 v2) 0 == (1 : Int) && (cI (el v0 v2) 1 == (0 : Int) && (ByteArray.toList (cS (el v0 v2) 2) == [] && true))), .i (w64 (v2 + (1 : Int))), .i v3, .i v4, .s v5])
    .fail)
    (.next [.l v0, .b false, .i (w64 (v2 + (1 : Int))), .i v3, .i v4, .s v5])))
    .fail)
    (.stop 1 [.b v1, .i v3, .i v4, .s v5]))
  | _ => .fail
def sp_R01_Or_20_3 : LSp := ⟨30, ⟨[(0, .one (.l 25)), (2, .one (.ptr 0 0)), (3, .one (.b)), (4, .one (.i .i64))], [.box 25 [.one (.i .i64), .one (.i .i64), .one (.s)]]⟩, [(.ret, ⟨[(2, .one (.ptr 0 0))], [.box 25 [.one (.i .i64), .one (.i .i64), .one (.s)]]⟩), (.exit 0, ⟨[(2, .one (.ptr 0 0)), (3, .one (.b))], [.box 25 [.one (.i .i64), .one (.i .i64), .one (.s)]]⟩)]⟩
set_option maxRecDepth 100000 in
theorem rq_R01_Or_20_3 (v0 : List (List PV)) (v1 : Bool) (v2 : Int) (v3 : Int) (v4 : Int) (v5 : ByteArray) : runK br Tryd.prog (callK br Tryd.prog X23 M_R01_Or L_R01_Or (lsT []) 40) M_R01_Or (lsT [] 20 0) 40 0 (L_R01_Or 20) (bodyOf Tryd.prog 20 3) (sp_R01_Or_20_3.s.ts sp_R01_Or_20_3.n [.l v0, .b v1, .i v2, .i v3, .i v4, .s v5]) (sp_R01_Or_20_3.s.h [.l v0, .b v1, .i v2, .i v3, .i v4, .s v5]) (idc Tryd.prog 0 (L_R01_Or 20) 3) =
    (rd_R01_Or_20_3 [.l v0, .b v1, .i v2, .i v3, .i v4, .s v5]).go br (fun us' => some (.normal, sp_R01_Or_20_3.s.ts sp_R01_Or_20_3.n us', sp_R01_Or_20_3.s.h us')) sp_R01_Or_20_3.fin := by
  rw [← callF_eq, ← runF_eq]; kernel_rfl
theorem lo_R01_Or_20_3 {R : Type} : LoopTells Tryd.prog X23 M_R01_Or L_R01_Or 0 (L_R01_Or 20) (bodyOf Tryd.prog 20 3) (gL (R := R) sp_R01_Or_20_3 rd_R01_Or_20_3 br) :=
  loopTold (callK_ev (loopsOK_list rids noneIn) 40) (lsokIn (loopsOK_list rids noneIn) 20 0 3) (by kernel_rfl) sp_R01_Or_20_3 rd_R01_Or_20_3 rfl (by kernel_rfl) (by
    intro us v h; unfold rd_R01_Or_20_3 at h; split at h
    · rename_i v0 v1 v2 v3 v4 v5; exact rq_R01_Or_20_3 v0 v1 v2 v3 v4 v5
    · cases h)
noncomputable abbrev ll_R01_Or_20_3 {R : Type} : List (Nat × Nat × Nat × Smy R) := (20, 0, 3, gL sp_R01_Or_20_3 rd_R01_Or_20_3 br) :: []
theorem lk_R01_Or_20_3 {R : Type} : ∀ e ∈ ll_R01_Or_20_3 (R := R), LoopTells Tryd.prog X23 M_R01_Or L_R01_Or e.2.1 (L_R01_Or e.1) (bodyOf Tryd.prog e.1 e.2.2.1) e.2.2.2 := List.forall_mem_cons.2 ⟨lo_R01_Or_20_3, noneIn⟩
def S_R01_Or : FSp := ⟨[.one (.l 25)], [], [], [([.agg [.i .i64, .i .i64, .s]], [])]⟩
noncomputable def m_R01_Or : List U → Rt
  | [.l v0] =>
    (let r0 : Rs := (lres rd_R01_Or_20_3 [U.l v0, U.b true, U.i (0 : Int), U.i (0 : Int), U.i (0 : Int), U.s { data := #[] }])
    (.test (ok r0 0)
    (.stop 0 [.i (uI (out r0 0) 0), .i (uI (out r0 0) 1), .s (uS (out r0 0) 2)])
    (.test (ok r0 1)
    (.test (uB (out r0 1) 0)
    (.stop 0 [.i ((1 : Int)), .i ((0 : Int)), .s ({ data := #[] })])
    (.stop 0 [.i ((0 : Int)), .i ((0 : Int)), .s ({ data := #[] })]))
    .fail)))
  | _ => .fail
set_option maxRecDepth 100000 in
theorem q_R01_Or (v0 : List (List PV)) : callK br Tryd.prog X23 M_R01_Or L_R01_Or (lsT ll_R01_Or_20_3) 60 20 (encs [.l v0] 0 S_R01_Or.ap) (encH [.l v0] (ws S_R01_Or.ap) S_R01_Or.ah) (fun y => fixR Tryd.prog S_R01_Or.plan S_R01_Or.ah.length y) =
    (m_R01_Or [.l v0]).go br (fun _ => none) S_R01_Or.fin := by
  rw [← callF_eq]; kernel_rfl
theorem e_R01_Or : EOK Tryd.prog 20 (gF S_R01_Or m_R01_Or) :=
  eokTold mixed named x23 (loopsOK_list rids lk_R01_Or_20_3) 60 S_R01_Or m_R01_Or (by
    intro us v h; unfold m_R01_Or at h; split at h
    · rename_i v0; exact q_R01_Or v0
    · cases h) false
noncomputable abbrev X24 : Ext := extT [(20, (gF S_R01_Or m_R01_Or))] X23
theorem x24 : XOK Tryd.prog X24 := xok1 x23 e_R01_Or

/-- levee/leveelaw01.ValueLogic -/
def L_L01_ValueLogic : FuncId → Nat → Option (List Nat) := liveT [(3, 4, [0, 1, 5]), (3, 1000004, [0, 1]), (3, 2000004, [4])]
def M_L01_ValueLogic : FuncId → Bool := fun _ => false
noncomputable def rd_L01_ValueLogic_3_4 : List U → Rt
  | [.l v0, .b v1, .i v2] =>
    (.test (decide (v2 < ln v0))
    (.test (inR v2 (ln v0))
    (let r0 : Rs := (Rt.res (m_value_Not [U.i (cI (el v0 v2) 0), U.i (cI (el v0 v2) 1), U.s (cS (el v0 v2) 2)]))
    (.test (ok r0 0)
    (.test (inR v2 (ln v0))
    (let r1 : Rs := (Rt.res (m_R01_Not [U.i (cI (el v0 v2) 0), U.i (cI (el v0 v2) 1), U.s (cS (el v0 v2) 2)]))
    (.test (ok r1 0)
    (.test (!(uI (out r0 0) 0 == uI (out r1 0) 0 && (uI (out r0 0) 1 == uI (out r1 0) 1 && (ByteArray.toList (uS (out r0 0) 2) == ByteArray.toList (uS (out r1 0) 2) && true))))
    (.stop 0 [.b false])
    (.next [.l v0, .b v1, .i (w64 (v2 + (1 : Int)))]))
    .fail))
    .fail)
    .fail))
    .fail)
    (.stop 1 [.l v0, .b v1]))
  | _ => .fail
def sp_L01_ValueLogic_3_4 : LSp := ⟨49, ⟨[(0, .one (.l 25)), (1, .one (.b)), (5, .one (.i .i64))], []⟩, [(.ret, ⟨[(4, .one (.b))], []⟩), (.exit 0, ⟨[(0, .one (.l 25)), (1, .one (.b))], []⟩)]⟩
set_option maxRecDepth 100000 in
theorem rq_L01_ValueLogic_3_4 (v0 : List (List PV)) (v1 : Bool) (v2 : Int) : runK br Tryd.prog (callK br Tryd.prog X24 M_L01_ValueLogic L_L01_ValueLogic (lsT []) 40) M_L01_ValueLogic (lsT [] 3 0) 40 0 (L_L01_ValueLogic 3) (bodyOf Tryd.prog 3 4) (sp_L01_ValueLogic_3_4.s.ts sp_L01_ValueLogic_3_4.n [.l v0, .b v1, .i v2]) (sp_L01_ValueLogic_3_4.s.h [.l v0, .b v1, .i v2]) (idc Tryd.prog 0 (L_L01_ValueLogic 3) 4) =
    (rd_L01_ValueLogic_3_4 [.l v0, .b v1, .i v2]).go br (fun us' => some (.normal, sp_L01_ValueLogic_3_4.s.ts sp_L01_ValueLogic_3_4.n us', sp_L01_ValueLogic_3_4.s.h us')) sp_L01_ValueLogic_3_4.fin := by
  rw [← callF_eq, ← runF_eq]; kernel_rfl
theorem lo_L01_ValueLogic_3_4 {R : Type} : LoopTells Tryd.prog X24 M_L01_ValueLogic L_L01_ValueLogic 0 (L_L01_ValueLogic 3) (bodyOf Tryd.prog 3 4) (gL (R := R) sp_L01_ValueLogic_3_4 rd_L01_ValueLogic_3_4 br) :=
  loopTold (callK_ev (loopsOK_list rids noneIn) 40) (lsokIn (loopsOK_list rids noneIn) 3 0 4) (by kernel_rfl) sp_L01_ValueLogic_3_4 rd_L01_ValueLogic_3_4 rfl (by kernel_rfl) (by
    intro us v h; unfold rd_L01_ValueLogic_3_4 at h; split at h
    · rename_i v0 v1 v2; exact rq_L01_ValueLogic_3_4 v0 v1 v2
    · cases h)
noncomputable abbrev ll_L01_ValueLogic_3_4 {R : Type} : List (Nat × Nat × Nat × Smy R) := (3, 0, 4, gL sp_L01_ValueLogic_3_4 rd_L01_ValueLogic_3_4 br) :: []
theorem lk_L01_ValueLogic_3_4 {R : Type} : ∀ e ∈ ll_L01_ValueLogic_3_4 (R := R), LoopTells Tryd.prog X24 M_L01_ValueLogic L_L01_ValueLogic e.2.1 (L_L01_ValueLogic e.1) (bodyOf Tryd.prog e.1 e.2.2.1) e.2.2.2 := List.forall_mem_cons.2 ⟨lo_L01_ValueLogic_3_4, noneIn⟩
def S_L01_ValueLogic : FSp := ⟨[.one (.l 25), .one (.b)], [], [], [([.one (.b)], [])]⟩
noncomputable def m_L01_ValueLogic : List U → Rt
  | [.l v0, .b v1] =>
    (.test (decide (ln v0 > (100 : Int)))
    (.stop 0 [.b true])
    (let r0 : Rs := (lres rd_L01_ValueLogic_3_4 [U.l v0, U.b v1, U.i (0 : Int)])
    (.test (ok r0 0)
    (.stop 0 [.b (uB (out r0 0) 0)])
    (.test (ok r0 1)
    (let r1 : Rs := (Rt.res (m_value_And [U.l (uL (out r0 1) 0)]))
    (.test (ok r1 0)
    (let r2 : Rs := (Rt.res (m_R01_And [U.l (uL (out r0 1) 0)]))
    (.test (ok r2 0)
    (.test (uI (out r1 0) 0 == uI (out r2 0) 0 && (uI (out r1 0) 1 == uI (out r2 0) 1 && (ByteArray.toList (uS (out r1 0) 2) == ByteArray.toList (uS (out r2 0) 2) && true)))
    (let r3 : Rs := (Rt.res (m_value_Or [U.l (uL (out r0 1) 0)]))
    (.test (ok r3 0)
    (let r4 : Rs := (Rt.res (m_R01_Or [U.l (uL (out r0 1) 0)]))
    (.test (ok r4 0)
    (.test (uI (out r3 0) 0 == uI (out r4 0) 0 && (uI (out r3 0) 1 == uI (out r4 0) 1 && (ByteArray.toList (uS (out r3 0) 2) == ByteArray.toList (uS (out r4 0) 2) && true)))
    (let r5 : Rs := (Rt.res (m_value_Truth [U.b (uB (out r0 1) 1)]))
    (.test (ok r5 0)
    (let r6 : Rs := (Rt.res (m_R01_Truth [U.b (uB (out r0 1) 1)]))
    (.test (ok r6 0)
    (.stop 0 [.b (uI (out r5 0) 0 == uI (out r6 0) 0 && (uI (out r5 0) 1 == uI (out r6 0) 1 && (ByteArray.toList (uS (out r5 0) 2) == ByteArray.toList (uS (out r6 0) 2) && true)))])
    .fail))
    .fail))
    (.stop 0 [.b false]))
    .fail))
    .fail))
    (.stop 0 [.b false]))
    .fail))
    .fail))
    .fail))))
  | _ => .fail
set_option maxRecDepth 100000 in
theorem q_L01_ValueLogic (v0 : List (List PV)) (v1 : Bool) : callK br Tryd.prog X24 M_L01_ValueLogic L_L01_ValueLogic (lsT ll_L01_ValueLogic_3_4) 60 3 (encs [.l v0, .b v1] 0 S_L01_ValueLogic.ap) (encH [.l v0, .b v1] (ws S_L01_ValueLogic.ap) S_L01_ValueLogic.ah) (fun y => fixR Tryd.prog S_L01_ValueLogic.plan S_L01_ValueLogic.ah.length y) =
    (m_L01_ValueLogic [.l v0, .b v1]).go br (fun _ => none) S_L01_ValueLogic.fin := by
  rw [← callF_eq]; kernel_rfl
theorem e_L01_ValueLogic : EOK Tryd.prog 3 (gF S_L01_ValueLogic m_L01_ValueLogic) :=
  eokTold mixed named x24 (loopsOK_list rids lk_L01_ValueLogic_3_4) 60 S_L01_ValueLogic m_L01_ValueLogic (by
    intro us v h; unfold m_L01_ValueLogic at h; split at h
    · rename_i v0 v1; exact q_L01_ValueLogic v0 v1
    · cases h) false
noncomputable abbrev X25 : Ext := extT [(3, (gF S_L01_ValueLogic m_L01_ValueLogic))] X24
theorem x25 : XOK Tryd.prog X25 := xok1 x24 e_L01_ValueLogic

/-- levee/leveelaw01.ValueTurns -/
def L_L01_ValueTurns : FuncId → Nat → Option (List Nat) := liveT [(4, 5, [0, 1, 5, 6, 7]), (4, 1000005, [0, 1, 5, 6]), (4, 2000005, [4])]
def M_L01_ValueTurns : FuncId → Bool := fun _ => false
noncomputable def rd_L01_ValueTurns_4_5 : List U → Rt
  | [.l v0, .l v1, .i v2, .l v3, .l v4] =>
    (.test (decide (v2 < w64 (ln v0 + ln v1)))
    (.test (decide (v2 < ln v0))
    (.test (inR v2 (ln v0))
    (.test (!(cI (el v0 v2) 0 == (1 : Int) && (cI (el v0 v2) 1 == (1 : Int) && (ByteArray.toList (cS (el v0 v2) 2) == [] && true))))
    (.test (!(cI (el v0 v2) 0 == (1 : Int) && (cI (el v0 v2) 1 == (0 : Int) && (ByteArray.toList (cS (el v0 v2) 2) == [] && true))))
    (.test (!(cI (el v0 v2) 0 == (0 : Int) && (cI (el v0 v2) 1 == (0 : Int) && (ByteArray.toList (cS (el v0 v2) 2) == [] && true))))
    (.stop 0 [.b true])
    (.test (decide ((List.length v3 + 1) * 32 ≤ 140737488355328))
    (let r0 : Rs := (Rt.res (m_value_Not [U.i (cI (el v0 v2) 0), U.i (cI (el v0 v2) 1), U.s (cS (el v0 v2) 2)]))
    (.test (ok r0 0)
    (.test (decide ((1 + List.length v4) * 32 ≤ 140737488355328))
    (.next [.l v0, .l v1, .i (w64 (v2 + (1 : Int))), .l (v3 ++ [[pI (cI (el v0 v2) 0), pI (cI (el v0 v2) 1), pS (cS (el v0 v2) 2)]]), .l ([[pI (uI (out r0 0) 0), pI (uI (out r0 0) 1), pS (uS (out r0 0) 2)]] ++ v4)])
    .fail)
    .fail))
    .fail))
    (.test (decide ((List.length v3 + 1) * 32 ≤ 140737488355328))
    (let r1 : Rs := (Rt.res (m_value_Not [U.i (cI (el v0 v2) 0), U.i (cI (el v0 v2) 1), U.s (cS (el v0 v2) 2)]))
    (.test (ok r1 0)
    (.test (decide ((1 + List.length v4) * 32 ≤ 140737488355328))
    (.next [.l v0, .l v1, .i (w64 (v2 + (1 : Int))), .l (v3 ++ [[pI (cI (el v0 v2) 0), pI (cI (el v0 v2) 1), pS (cS (el v0 v2) 2)]]), .l ([[pI (uI (out r1 0) 0), pI (uI (out r1 0) 1), pS (uS (out r1 0) 2)]] ++ v4)])
    .fail)
    .fail))
    .fail))
    (.test (decide ((List.length v3 + 1) * 32 ≤ 140737488355328))
    (let r2 : Rs := (Rt.res (m_value_Not [U.i (cI (el v0 v2) 0), U.i (cI (el v0 v2) 1), U.s (cS (el v0 v2) 2)]))
    (.test (ok r2 0)
    (.test (decide ((1 + List.length v4) * 32 ≤ 140737488355328))
    (.next [.l v0, .l v1, .i (w64 (v2 + (1 : Int))), .l (v3 ++ [[pI (cI (el v0 v2) 0), pI (cI (el v0 v2) 1), pS (cS (el v0 v2) 2)]]), .l ([[pI (uI (out r2 0) 0), pI (uI (out r2 0) 1), pS (uS (out r2 0) 2)]] ++ v4)])
    .fail)
    .fail))
    .fail))
    .fail)
    (.test (inR (w64 (v2 - ln v0)) (ln v1))
    (.test (!(cI (el v1 (w64 (v2 - ln v0))) 0 == (1 : Int) && (cI (el v1 (w64 (v2 - ln v0))) 1 == (1 : Int) && (ByteArray.toList (cS (el v1 (w64 (v2 - ln v0))) 2) == [] && true))))
    (.test (!(cI (el v1 (w64 (v2 - ln v0))) 0 == (1 : Int) && (cI (el v1 (w64 (v2 - ln v0))) 1 == (0 : Int) && (ByteArray.toList (cS (el v1 (w64 (v2 - ln v0))) 2) == [] && true))))
    (.test (!(cI (el v1 (w64 (v2 - ln v0))) 0 == (0 : Int) && (cI (el v1 (w64 (v2 - ln v0))) 1 == (0 : Int) && (ByteArray.toList (cS (el v1 (w64 (v2 - ln v0))) 2) == [] && true))))
    (.stop 0 [.b true])
    (.test (decide ((List.length v3 + 1) * 32 ≤ 140737488355328))
    (let r3 : Rs := (Rt.res (m_value_Not [U.i (cI (el v1 (w64 (v2 - ln v0))) 0), U.i (cI (el v1 (w64 (v2 - ln v0))) 1), U.s (cS (el v1 (w64 (v2 - ln v0))) 2)]))
    (.test (ok r3 0)
    (.test (decide ((1 + List.length v4) * 32 ≤ 140737488355328))
    (.next [.l v0, .l v1, .i (w64 (v2 + (1 : Int))), .l (v3 ++ [[pI (cI (el v1 (w64 (v2 - ln v0))) 0), pI (cI (el v1 (w64 (v2 - ln v0))) 1), pS (cS (el v1 (w64 (v2 - ln v0))) 2)]]), .l ([[pI (uI (out r3 0) 0), pI (uI (out r3 0) 1), pS (uS (out r3 0) 2)]] ++ v4)])
    .fail)
    .fail))
    .fail))
    (.test (decide ((List.length v3 + 1) * 32 ≤ 140737488355328))
    (let r4 : Rs := (Rt.res (m_value_Not [U.i (cI (el v1 (w64 (v2 - ln v0))) 0), U.i (cI (el v1 (w64 (v2 - ln v0))) 1), U.s (cS (el v1 (w64 (v2 - ln v0))) 2)]))
    (.test (ok r4 0)
    (.test (decide ((1 + List.length v4) * 32 ≤ 140737488355328))
    (.next [.l v0, .l v1, .i (w64 (v2 + (1 : Int))), .l (v3 ++ [[pI (cI (el v1 (w64 (v2 - ln v0))) 0), pI (cI (el v1 (w64 (v2 - ln v0))) 1), pS (cS (el v1 (w64 (v2 - ln v0))) 2)]]), .l ([[pI (uI (out r4 0) 0), pI (uI (out r4 0) 1), pS (uS (out r4 0) 2)]] ++ v4)])
    .fail)
    .fail))
    .fail))
    (.test (decide ((List.length v3 + 1) * 32 ≤ 140737488355328))
    (let r5 : Rs := (Rt.res (m_value_Not [U.i (cI (el v1 (w64 (v2 - ln v0))) 0), U.i (cI (el v1 (w64 (v2 - ln v0))) 1), U.s (cS (el v1 (w64 (v2 - ln v0))) 2)]))
    (.test (ok r5 0)
    (.test (decide ((1 + List.length v4) * 32 ≤ 140737488355328))
    (.next [.l v0, .l v1, .i (w64 (v2 + (1 : Int))), .l (v3 ++ [[pI (cI (el v1 (w64 (v2 - ln v0))) 0), pI (cI (el v1 (w64 (v2 - ln v0))) 1), pS (cS (el v1 (w64 (v2 - ln v0))) 2)]]), .l ([[pI (uI (out r5 0) 0), pI (uI (out r5 0) 1), pS (uS (out r5 0) 2)]] ++ v4)])
    .fail)
    .fail))
    .fail))
    .fail))
    (.stop 1 [.l v0, .l v1, .l v3, .l v4]))
  | _ => .fail
def sp_L01_ValueTurns_4_5 : LSp := ⟨109, ⟨[(0, .one (.l 25)), (1, .one (.l 25)), (5, .one (.all 0)), (6, .one (.all 1)), (7, .one (.i .i64))], [.arr 25 true, .arr 25 true]⟩, [(.ret, ⟨[(4, .one (.b))], []⟩), (.exit 0, ⟨[(0, .one (.l 25)), (1, .one (.l 25)), (5, .one (.all 0)), (6, .one (.all 1))], [.arr 25 true, .arr 25 true]⟩)]⟩
set_option maxRecDepth 100000 in
theorem rq_L01_ValueTurns_4_5 (v0 : List (List PV)) (v1 : List (List PV)) (v2 : Int) (v3 : List (List PV)) (v4 : List (List PV)) : runK br Tryd.prog (callK br Tryd.prog X25 M_L01_ValueTurns L_L01_ValueTurns (lsT []) 40) M_L01_ValueTurns (lsT [] 4 0) 40 0 (L_L01_ValueTurns 4) (bodyOf Tryd.prog 4 5) (sp_L01_ValueTurns_4_5.s.ts sp_L01_ValueTurns_4_5.n [.l v0, .l v1, .i v2, .l v3, .l v4]) (sp_L01_ValueTurns_4_5.s.h [.l v0, .l v1, .i v2, .l v3, .l v4]) (idc Tryd.prog 0 (L_L01_ValueTurns 4) 5) =
    (rd_L01_ValueTurns_4_5 [.l v0, .l v1, .i v2, .l v3, .l v4]).go br (fun us' => some (.normal, sp_L01_ValueTurns_4_5.s.ts sp_L01_ValueTurns_4_5.n us', sp_L01_ValueTurns_4_5.s.h us')) sp_L01_ValueTurns_4_5.fin := by
  rw [← callF_eq, ← runF_eq]; kernel_rfl
theorem lo_L01_ValueTurns_4_5 {R : Type} : LoopTells Tryd.prog X25 M_L01_ValueTurns L_L01_ValueTurns 0 (L_L01_ValueTurns 4) (bodyOf Tryd.prog 4 5) (gL (R := R) sp_L01_ValueTurns_4_5 rd_L01_ValueTurns_4_5 br) :=
  loopTold (callK_ev (loopsOK_list rids noneIn) 40) (lsokIn (loopsOK_list rids noneIn) 4 0 5) (by kernel_rfl) sp_L01_ValueTurns_4_5 rd_L01_ValueTurns_4_5 rfl (by kernel_rfl) (by
    intro us v h; unfold rd_L01_ValueTurns_4_5 at h; split at h
    · rename_i v0 v1 v2 v3 v4; exact rq_L01_ValueTurns_4_5 v0 v1 v2 v3 v4
    · cases h)
noncomputable abbrev ll_L01_ValueTurns_4_5 {R : Type} : List (Nat × Nat × Nat × Smy R) := (4, 0, 5, gL sp_L01_ValueTurns_4_5 rd_L01_ValueTurns_4_5 br) :: []
theorem lk_L01_ValueTurns_4_5 {R : Type} : ∀ e ∈ ll_L01_ValueTurns_4_5 (R := R), LoopTells Tryd.prog X25 M_L01_ValueTurns L_L01_ValueTurns e.2.1 (L_L01_ValueTurns e.1) (bodyOf Tryd.prog e.1 e.2.2.1) e.2.2.2 := List.forall_mem_cons.2 ⟨lo_L01_ValueTurns_4_5, noneIn⟩
def S_L01_ValueTurns : FSp := ⟨[.one (.l 25), .one (.l 25)], [], [], [([.one (.b)], [])]⟩
noncomputable def m_L01_ValueTurns : List U → Rt
  | [.l v0, .l v1] =>
    (.test (decide (ln v0 > (60 : Int)))
    (.stop 0 [.b true])
    (.test (decide (ln v1 > (60 : Int)))
    (.stop 0 [.b true])
    (let r0 : Rs := (lres rd_L01_ValueTurns_4_5 [U.l v0, U.l v1, U.i (0 : Int), U.l [], U.l []])
    (.test (ok r0 0)
    (.stop 0 [.b (uB (out r0 0) 0)])
    (.test (ok r0 1)
    (let r1 : Rs := (Rt.res (m_value_And [U.l (uL (out r0 1) 2)]))
    (.test (ok r1 0)
    (let r2 : Rs := (Rt.res (m_value_Or [U.l (uL (out r0 1) 2)]))
    (.test (ok r2 0)
    (let r3 : Rs := (Rt.res (m_value_Not [U.i (uI (out r1 0) 0), U.i (uI (out r1 0) 1), U.s (uS (out r1 0) 2)]))
    (.test (ok r3 0)
    (let r4 : Rs := (Rt.res (m_value_Or [U.l (uL (out r0 1) 3)]))
    (.test (ok r4 0)
    (.test (uI (out r3 0) 0 == uI (out r4 0) 0 && (uI (out r3 0) 1 == uI (out r4 0) 1 && (ByteArray.toList (uS (out r3 0) 2) == ByteArray.toList (uS (out r4 0) 2) && true)))
    (let r5 : Rs := (Rt.res (m_value_Not [U.i (uI (out r2 0) 0), U.i (uI (out r2 0) 1), U.s (uS (out r2 0) 2)]))
    (.test (ok r5 0)
    (let r6 : Rs := (Rt.res (m_value_And [U.l (uL (out r0 1) 3)]))
    (.test (ok r6 0)
    (.test (uI (out r5 0) 0 == uI (out r6 0) 0 && (uI (out r5 0) 1 == uI (out r6 0) 1 && (ByteArray.toList (uS (out r5 0) 2) == ByteArray.toList (uS (out r6 0) 2) && true)))
    (let r7 : Rs := (Rt.res (m_value_And [U.l (uL (out r0 1) 0)]))
    (.test (ok r7 0)
    (let r8 : Rs := (Rt.res (m_value_And [U.l (uL (out r0 1) 1)]))
    (.test (ok r8 0)
    (let r9 : Rs := (Rt.res (m_value_And [U.l [[pI (uI (out r7 0) 0), pI (uI (out r7 0) 1), pS (uS (out r7 0) 2)], [pI (uI (out r8 0) 0), pI (uI (out r8 0) 1), pS (uS (out r8 0) 2)]]]))
    (.test (ok r9 0)
    (.test (uI (out r1 0) 0 == uI (out r9 0) 0 && (uI (out r1 0) 1 == uI (out r9 0) 1 && (ByteArray.toList (uS (out r1 0) 2) == ByteArray.toList (uS (out r9 0) 2) && true)))
    (let r10 : Rs := (Rt.res (m_value_Or [U.l (uL (out r0 1) 1)]))
    (.test (ok r10 0)
    (let r11 : Rs := (Rt.res (m_value_Or [U.l (uL (out r0 1) 0)]))
    (.test (ok r11 0)
    (let r12 : Rs := (Rt.res (m_value_Or [U.l [[pI (uI (out r10 0) 0), pI (uI (out r10 0) 1), pS (uS (out r10 0) 2)], [pI (uI (out r11 0) 0), pI (uI (out r11 0) 1), pS (uS (out r11 0) 2)]]]))
    (.test (ok r12 0)
    (.stop 0 [.b (uI (out r2 0) 0 == uI (out r12 0) 0 && (uI (out r2 0) 1 == uI (out r12 0) 1 && (ByteArray.toList (uS (out r2 0) 2) == ByteArray.toList (uS (out r12 0) 2) && true)))])
    .fail))
    .fail))
    .fail))
    (.stop 0 [.b false]))
    .fail))
    .fail))
    .fail))
    (.stop 0 [.b false]))
    .fail))
    .fail))
    (.stop 0 [.b false]))
    .fail))
    .fail))
    .fail))
    .fail))
    .fail)))))
  | _ => .fail
set_option maxRecDepth 100000 in
theorem q_L01_ValueTurns (v0 : List (List PV)) (v1 : List (List PV)) : callK br Tryd.prog X25 M_L01_ValueTurns L_L01_ValueTurns (lsT ll_L01_ValueTurns_4_5) 60 4 (encs [.l v0, .l v1] 0 S_L01_ValueTurns.ap) (encH [.l v0, .l v1] (ws S_L01_ValueTurns.ap) S_L01_ValueTurns.ah) (fun y => fixR Tryd.prog S_L01_ValueTurns.plan S_L01_ValueTurns.ah.length y) =
    (m_L01_ValueTurns [.l v0, .l v1]).go br (fun _ => none) S_L01_ValueTurns.fin := by
  rw [← callF_eq]; kernel_rfl
theorem e_L01_ValueTurns : EOK Tryd.prog 4 (gF S_L01_ValueTurns m_L01_ValueTurns) :=
  eokTold mixed named x25 (loopsOK_list rids lk_L01_ValueTurns_4_5) 60 S_L01_ValueTurns m_L01_ValueTurns (by
    intro us v h; unfold m_L01_ValueTurns at h; split at h
    · rename_i v0 v1; exact q_L01_ValueTurns v0 v1
    · cases h) false
noncomputable abbrev X26 : Ext := extT [(4, (gF S_L01_ValueTurns m_L01_ValueTurns))] X25
theorem x26 : XOK Tryd.prog X26 := xok1 x25 e_L01_ValueTurns

/-- levee/leveelaw01.ValueOrder -/
def L_L01_ValueOrder : FuncId → Nat → Option (List Nat) := liveT []
def M_L01_ValueOrder : FuncId → Bool := fun _ => false
def S_L01_ValueOrder : FSp := ⟨[.agg [.i .i64, .i .i64, .s], .agg [.i .i64, .i .i64, .s], .agg [.i .i64, .i .i64, .s]], [], [], [([.one (.b)], [])]⟩
noncomputable def m_L01_ValueOrder : List U → Rt
  | [.i v0, .i v1, .s v2, .i v3, .i v4, .s v5, .i v6, .i v7, .s v8] =>
    (.test (decide ((↑(ByteArray.size v2) : Int) > (1000 : Int)))
    (.stop 0 [.b true])
    (.test (decide ((↑(ByteArray.size v5) : Int) > (1000 : Int)))
    (.stop 0 [.b true])
    (.test (decide ((↑(ByteArray.size v8) : Int) > (1000 : Int)))
    (.stop 0 [.b true])
    (let r0 : Rs := (Rt.res (m_value_Compare [U.i v0, U.i v1, U.s v2, U.i v3, U.i v4, U.s v5]))
    (.test (ok r0 0)
    (let r1 : Rs := (Rt.res (m_value_Compare [U.i v3, U.i v4, U.s v5, U.i v6, U.i v7, U.s v8]))
    (.test (ok r1 0)
    (let r2 : Rs := (Rt.res (m_value_Compare [U.i v0, U.i v1, U.s v2, U.i v6, U.i v7, U.s v8]))
    (.test (ok r2 0)
    (let r3 : Rs := (Rt.res (m_value_Compare [U.i v3, U.i v4, U.s v5, U.i v0, U.i v1, U.s v2]))
    (.test (ok r3 0)
    (.test (uI (out r0 0) 0 != w64 ((0 : Int) - uI (out r3 0) 0))
    (.stop 0 [.b false])
    (.test (!(uI (out r0 0) 0 == (0 : Int)) == (v0 == v3 && (v1 == v4 && (ByteArray.toList v2 == ByteArray.toList v5 && true))))
    (.stop 0 [.b false])
    (.test (decide (uI (out r0 0) 0 < (-1 : Int)))
    (.stop 0 [.b false])
    (.test (decide (uI (out r0 0) 0 > (1 : Int)))
    (.stop 0 [.b false])
    (.test (decide (uI (out r0 0) 0 ≤ (0 : Int)))
    (.test (!decide (uI (out r1 0) 0 ≤ (0 : Int)))
    (.stop 0 [.b true])
    (.test (decide (uI (out r2 0) 0 ≤ (0 : Int)))
    (.test (uI (out r0 0) 0 == (0 : Int))
    (.stop 0 [.b ((uI (out r2 0) 0 == (0 : Int)) == (uI (out r1 0) 0 == (0 : Int)))])
    (.stop 0 [.b ((uI (out r2 0) 0 == (0 : Int)) == false)]))
    (.stop 0 [.b false])))
    (.stop 0 [.b true]))))))
    .fail))
    .fail))
    .fail))
    .fail)))))
  | _ => .fail
set_option maxRecDepth 100000 in
theorem q_L01_ValueOrder (v0 : Int) (v1 : Int) (v2 : ByteArray) (v3 : Int) (v4 : Int) (v5 : ByteArray) (v6 : Int) (v7 : Int) (v8 : ByteArray) : callK br Tryd.prog X26 M_L01_ValueOrder L_L01_ValueOrder (lsT []) 60 5 (encs [.i v0, .i v1, .s v2, .i v3, .i v4, .s v5, .i v6, .i v7, .s v8] 0 S_L01_ValueOrder.ap) (encH [.i v0, .i v1, .s v2, .i v3, .i v4, .s v5, .i v6, .i v7, .s v8] (ws S_L01_ValueOrder.ap) S_L01_ValueOrder.ah) (fun y => fixR Tryd.prog S_L01_ValueOrder.plan S_L01_ValueOrder.ah.length y) =
    (m_L01_ValueOrder [.i v0, .i v1, .s v2, .i v3, .i v4, .s v5, .i v6, .i v7, .s v8]).go br (fun _ => none) S_L01_ValueOrder.fin := by
  rw [← callF_eq]; kernel_rfl
theorem e_L01_ValueOrder : EOK Tryd.prog 5 (gF S_L01_ValueOrder m_L01_ValueOrder) :=
  eokTold mixed named x26 (loopsOK_list rids noneIn) 60 S_L01_ValueOrder m_L01_ValueOrder (by
    intro us v h; unfold m_L01_ValueOrder at h; split at h
    · rename_i v0 v1 v2 v3 v4 v5 v6 v7 v8; exact q_L01_ValueOrder v0 v1 v2 v3 v4 v5 v6 v7 v8
    · cases h) false
noncomputable abbrev X27 : Ext := extT [(5, (gF S_L01_ValueOrder m_L01_ValueOrder))] X26
theorem x27 : XOK Tryd.prog X27 := xok1 x26 e_L01_ValueOrder

/-- levee/leveelaw01.ValueMuls -/
def L_L01_ValueMuls : FuncId → Nat → Option (List Nat) := liveT []
def M_L01_ValueMuls : FuncId → Bool := fun _ => false
def S_L01_ValueMuls : FSp := ⟨[.one (.i .i64), .one (.i .i64), .one (.i .i64)], [], [], [([.one (.b)], [])]⟩
noncomputable def m_L01_ValueMuls : List U → Rt
  | [.i v0, .i v1, .i v2] =>
    (.test (decide (v0 > (1000000 : Int)))
    (.stop 0 [.b true])
    (.test (decide (v1 > (1000000 : Int)))
    (.stop 0 [.b true])
    (.test (decide (v2 > (1000000 : Int)))
    (.stop 0 [.b true])
    (.test (decide (v0 < (-1000000 : Int)))
    (.stop 0 [.b true])
    (.test (decide (v1 < (-1000000 : Int)))
    (.stop 0 [.b true])
    (.test (decide (v2 < (-1000000 : Int)))
    (.stop 0 [.b true])
    (let r0 : Rs := (Rt.res (m_value_Add [U.i (2 : Int), U.i v1, U.s { data := #[] }, U.i (2 : Int), U.i v2, U.s { data := #[] }]))
    (.test (ok r0 0)
    (let r1 : Rs := (Rt.res (m_value_Mul [U.i (2 : Int), U.i v0, U.s { data := #[] }, U.i (uI (out r0 0) 0), U.i (uI (out r0 0) 1), U.s (uS (out r0 0) 2)]))
    (.test (ok r1 0)
    (let r2 : Rs := (Rt.res (m_value_Mul [U.i (2 : Int), U.i v0, U.s { data := #[] }, U.i (2 : Int), U.i v1, U.s { data := #[] }]))
    (.test (ok r2 0)
    (let r3 : Rs := (Rt.res (m_value_Mul [U.i (2 : Int), U.i v0, U.s { data := #[] }, U.i (2 : Int), U.i v2, U.s { data := #[] }]))
    (.test (ok r3 0)
    (let r4 : Rs := (Rt.res (m_value_Add [U.i (uI (out r2 0) 0), U.i (uI (out r2 0) 1), U.s (uS (out r2 0) 2), U.i (uI (out r3 0) 0), U.i (uI (out r3 0) 1), U.s (uS (out r3 0) 2)]))
    (.test (ok r4 0)
    (let r5 : Rs := (Rt.res (m_value_Mul [U.i (2 : Int), U.i v0, U.s { data := #[] }, U.i (2 : Int), U.i (0 : Int), U.s { data := #[] }]))
    (.test (ok r5 0)
    (let r6 : Rs := (Rt.res (m_value_Mul [U.i (2 : Int), U.i (1 : Int), U.s { data := #[] }, U.i (2 : Int), U.i v0, U.s { data := #[] }]))
    (.test (ok r6 0)
    (.test (uB (out r1 0) 3)
    (.test (uB (out r2 0) 3)
    (.test (uB (out r3 0) 3)
    (.test (uB (out r4 0) 3)
    (.test (uI (out r1 0) 0 == uI (out r4 0) 0 && (uI (out r1 0) 1 == uI (out r4 0) 1 && (ByteArray.toList (uS (out r1 0) 2) == ByteArray.toList (uS (out r4 0) 2) && true)))
    (.test (uI (out r5 0) 0 == (2 : Int) && (uI (out r5 0) 1 == (0 : Int) && (ByteArray.toList (uS (out r5 0) 2) == [] && true)))
    (.stop 0 [.b (uI (out r6 0) 0 == (2 : Int) && (uI (out r6 0) 1 == v0 && (ByteArray.toList (uS (out r6 0) 2) == [] && true)))])
    (.stop 0 [.b false]))
    (.stop 0 [.b false]))
    (.stop 0 [.b false]))
    (.stop 0 [.b false]))
    (.stop 0 [.b false]))
    (.stop 0 [.b false]))
    .fail))
    .fail))
    .fail))
    .fail))
    .fail))
    .fail))
    .fail))))))))
  | _ => .fail
set_option maxRecDepth 100000 in
theorem q_L01_ValueMuls (v0 : Int) (v1 : Int) (v2 : Int) : callK br Tryd.prog X27 M_L01_ValueMuls L_L01_ValueMuls (lsT []) 60 6 (encs [.i v0, .i v1, .i v2] 0 S_L01_ValueMuls.ap) (encH [.i v0, .i v1, .i v2] (ws S_L01_ValueMuls.ap) S_L01_ValueMuls.ah) (fun y => fixR Tryd.prog S_L01_ValueMuls.plan S_L01_ValueMuls.ah.length y) =
    (m_L01_ValueMuls [.i v0, .i v1, .i v2]).go br (fun _ => none) S_L01_ValueMuls.fin := by
  rw [← callF_eq]; kernel_rfl
theorem e_L01_ValueMuls : EOK Tryd.prog 6 (gF S_L01_ValueMuls m_L01_ValueMuls) :=
  eokTold mixed named x27 (loopsOK_list rids noneIn) 60 S_L01_ValueMuls m_L01_ValueMuls (by
    intro us v h; unfold m_L01_ValueMuls at h; split at h
    · rename_i v0 v1 v2; exact q_L01_ValueMuls v0 v1 v2
    · cases h) false
noncomputable abbrev X28 : Ext := extT [(6, (gF S_L01_ValueMuls m_L01_ValueMuls))] X27
theorem x28 : XOK Tryd.prog X28 := xok1 x27 e_L01_ValueMuls

/-- levee/leveeref01.May -/
def L_R01_May : FuncId → Nat → Option (List Nat) := liveT []
def M_R01_May : FuncId → Bool := fun _ => false
def S_R01_May : FSp := ⟨[.agg [.i .i64, .i .i64, .s]], [], [], [([.one (.b)], [])]⟩
noncomputable def m_R01_May : List U → Rt
  | [.i v0, .i v1, .s v2] =>
    (.test (v0 == (0 : Int))
    (.test (ByteArray.toList v2 == [])
    (.test (decide (v1 ≥ (0 : Int)))
    (.stop 0 [.b (decide (v1 ≤ v0))])
    (.stop 0 [.b false]))
    (.stop 0 [.b false]))
    (.test (v0 == (1 : Int))
    (.test (ByteArray.toList v2 == [])
    (.test (decide (v1 ≥ (0 : Int)))
    (.stop 0 [.b (decide (v1 ≤ v0))])
    (.stop 0 [.b false]))
    (.stop 0 [.b false]))
    (.test (v0 == (2 : Int))
    (.stop 0 [.b (ByteArray.toList v2 == [])])
    (.test (v0 == (3 : Int))
    (.test (v1 == (0 : Int))
    (.stop 0 [.b (decide ((↑(ByteArray.size v2) : Int) ≤ (1000 : Int)))])
    (.stop 0 [.b false]))
    (.stop 0 [.b false])))))
  | _ => .fail
set_option maxRecDepth 100000 in
theorem q_R01_May (v0 : Int) (v1 : Int) (v2 : ByteArray) : callK br Tryd.prog X28 M_R01_May L_R01_May (lsT []) 60 27 (encs [.i v0, .i v1, .s v2] 0 S_R01_May.ap) (encH [.i v0, .i v1, .s v2] (ws S_R01_May.ap) S_R01_May.ah) (fun y => fixR Tryd.prog S_R01_May.plan S_R01_May.ah.length y) =
    (m_R01_May [.i v0, .i v1, .s v2]).go br (fun _ => none) S_R01_May.fin := by
  rw [← callF_eq]; kernel_rfl
theorem e_R01_May : EOK Tryd.prog 27 (gF S_R01_May m_R01_May) :=
  eokTold mixed named x28 (loopsOK_list rids noneIn) 60 S_R01_May m_R01_May (by
    intro us v h; unfold m_R01_May at h; split at h
    · rename_i v0 v1 v2; exact q_R01_May v0 v1 v2
    · cases h) false
noncomputable abbrev X29 : Ext := extT [(27, (gF S_R01_May m_R01_May))] X28
theorem x29 : XOK Tryd.prog X29 := xok1 x28 e_R01_May

/-- levee/leveelaw01.ValueTexts -/
def L_L01_ValueTexts : FuncId → Nat → Option (List Nat) := liveT []
def M_L01_ValueTexts : FuncId → Bool := fun _ => false
def S_L01_ValueTexts : FSp := ⟨[.agg [.i .i64, .i .i64, .s], .agg [.i .i64, .i .i64, .s]], [], [], [([.one (.b)], [])]⟩
noncomputable def m_L01_ValueTexts : List U → Rt
  | [.i v0, .i v1, .s v2, .i v3, .i v4, .s v5] =>
    (let r0 : Rs := (Rt.res (m_R01_May [U.i v0, U.i v1, U.s v2]))
    (.test (ok r0 0)
    (.test (!uB (out r0 0) 0)
    (.stop 0 [.b true])
    (let r1 : Rs := (Rt.res (m_R01_May [U.i v3, U.i v4, U.s v5]))
    (.test (ok r1 0)
    (.test (!uB (out r1 0) 0)
    (.stop 0 [.b true])
    (let r2 : Rs := (Rt.res (m_value_Text [U.i v0, U.i v1, U.s v2]))
    (.test (ok r2 0)
    (let r3 : Rs := (Rt.res (m_value_Text [U.i v3, U.i v4, U.s v5]))
    (.test (ok r3 0)
    (.stop 0 [.b ((ByteArray.toList (uS (out r2 0) 0) == ByteArray.toList (uS (out r3 0) 0)) == (v0 == v3 && (v1 == v4 && (ByteArray.toList v2 == ByteArray.toList v5 && true))))])
    .fail))
    .fail)))
    .fail)))
    .fail))
  | _ => .fail
set_option maxRecDepth 100000 in
theorem q_L01_ValueTexts (v0 : Int) (v1 : Int) (v2 : ByteArray) (v3 : Int) (v4 : Int) (v5 : ByteArray) : callK br Tryd.prog X29 M_L01_ValueTexts L_L01_ValueTexts (lsT []) 60 7 (encs [.i v0, .i v1, .s v2, .i v3, .i v4, .s v5] 0 S_L01_ValueTexts.ap) (encH [.i v0, .i v1, .s v2, .i v3, .i v4, .s v5] (ws S_L01_ValueTexts.ap) S_L01_ValueTexts.ah) (fun y => fixR Tryd.prog S_L01_ValueTexts.plan S_L01_ValueTexts.ah.length y) =
    (m_L01_ValueTexts [.i v0, .i v1, .s v2, .i v3, .i v4, .s v5]).go br (fun _ => none) S_L01_ValueTexts.fin := by
  rw [← callF_eq]; kernel_rfl
theorem e_L01_ValueTexts : EOK Tryd.prog 7 (gF S_L01_ValueTexts m_L01_ValueTexts) :=
  eokTold mixed named x29 (loopsOK_list rids noneIn) 60 S_L01_ValueTexts m_L01_ValueTexts (by
    intro us v h; unfold m_L01_ValueTexts at h; split at h
    · rename_i v0 v1 v2 v3 v4 v5; exact q_L01_ValueTexts v0 v1 v2 v3 v4 v5
    · cases h) false
noncomputable abbrev X30 : Ext := extT [(7, (gF S_L01_ValueTexts m_L01_ValueTexts))] X29
theorem x30 : XOK Tryd.prog X30 := xok1 x29 e_L01_ValueTexts

/-- levee/value.Sub -/
def L_value_Sub : FuncId → Nat → Option (List Nat) := liveT []
def M_value_Sub : FuncId → Bool := fun _ => false
def S_value_Sub : FSp := ⟨[.agg [.i .i64, .i .i64, .s], .agg [.i .i64, .i .i64, .s]], [], [], [([.agg [.i .i64, .i .i64, .s], .one (.b)], [])]⟩
noncomputable def m_value_Sub : List U → Rt
  | [.i v0, .i v1, .s v2, .i v3, .i v4, .s v5] =>
    (.test (v0 == (0 : Int))
    (.stop 0 [.i ((0 : Int)), .i ((0 : Int)), .s ({ data := #[] }), .b true])
    (.test (v3 == (0 : Int))
    (.stop 0 [.i ((0 : Int)), .i ((0 : Int)), .s ({ data := #[] }), .b true])
    (.test (v0 != (2 : Int))
    (.stop 0 [.i ((0 : Int)), .i ((0 : Int)), .s ({ data := #[] }), .b false])
    (.test (v3 != (2 : Int))
    (.stop 0 [.i ((0 : Int)), .i ((0 : Int)), .s ({ data := #[] }), .b false])
    (.test (decide (w64 (v1 - v4) < v1) == decide (v4 > (0 : Int)))
    (.stop 0 [.i ((2 : Int)), .i (w64 (v1 - v4)), .s ({ data := #[] }), .b true])
    (.test (!v4 == (0 : Int))
    (.stop 0 [.i ((0 : Int)), .i ((0 : Int)), .s ({ data := #[] }), .b false])
    (.stop 0 [.i ((2 : Int)), .i (w64 (v1 - v4)), .s ({ data := #[] }), .b true])))))))
  | _ => .fail
set_option maxRecDepth 100000 in
theorem q_value_Sub (v0 : Int) (v1 : Int) (v2 : ByteArray) (v3 : Int) (v4 : Int) (v5 : ByteArray) : callK br Tryd.prog X30 M_value_Sub L_value_Sub (lsT []) 60 29 (encs [.i v0, .i v1, .s v2, .i v3, .i v4, .s v5] 0 S_value_Sub.ap) (encH [.i v0, .i v1, .s v2, .i v3, .i v4, .s v5] (ws S_value_Sub.ap) S_value_Sub.ah) (fun y => fixR Tryd.prog S_value_Sub.plan S_value_Sub.ah.length y) =
    (m_value_Sub [.i v0, .i v1, .s v2, .i v3, .i v4, .s v5]).go br (fun _ => none) S_value_Sub.fin := by
  rw [← callF_eq]; kernel_rfl
theorem e_value_Sub : EOK Tryd.prog 29 (gF S_value_Sub m_value_Sub) :=
  eokTold mixed named x30 (loopsOK_list rids noneIn) 60 S_value_Sub m_value_Sub (by
    intro us v h; unfold m_value_Sub at h; split at h
    · rename_i v0 v1 v2 v3 v4 v5; exact q_value_Sub v0 v1 v2 v3 v4 v5
    · cases h) false
noncomputable abbrev X31 : Ext := extT [(29, (gF S_value_Sub m_value_Sub))] X30
theorem x31 : XOK Tryd.prog X31 := xok1 x30 e_value_Sub

/-- levee/leveelaw01.ValueSums -/
def L_L01_ValueSums : FuncId → Nat → Option (List Nat) := liveT []
def M_L01_ValueSums : FuncId → Bool := fun _ => false
def S_L01_ValueSums : FSp := ⟨[.one (.i .i64), .one (.i .i64)], [], [], [([.one (.b)], [])]⟩
noncomputable def m_L01_ValueSums : List U → Rt
  | [.i v0, .i v1] =>
    (let r0 : Rs := (Rt.res (m_value_Add [U.i (2 : Int), U.i v0, U.s { data := #[] }, U.i (2 : Int), U.i v1, U.s { data := #[] }]))
    (.test (ok r0 0)
    (let r1 : Rs := (Rt.res (m_value_Add [U.i (2 : Int), U.i v1, U.s { data := #[] }, U.i (2 : Int), U.i v0, U.s { data := #[] }]))
    (.test (ok r1 0)
    (let r2 : Rs := (Rt.res (m_value_Mul [U.i (2 : Int), U.i v0, U.s { data := #[] }, U.i (2 : Int), U.i v1, U.s { data := #[] }]))
    (.test (ok r2 0)
    (let r3 : Rs := (Rt.res (m_value_Mul [U.i (2 : Int), U.i v1, U.s { data := #[] }, U.i (2 : Int), U.i v0, U.s { data := #[] }]))
    (.test (ok r3 0)
    (.test (!(uI (out r0 0) 0 == uI (out r1 0) 0 && (uI (out r0 0) 1 == uI (out r1 0) 1 && (ByteArray.toList (uS (out r0 0) 2) == ByteArray.toList (uS (out r1 0) 2) && true))))
    (.stop 0 [.b false])
    (.test (!uB (out r0 0) 3 == uB (out r1 0) 3)
    (.stop 0 [.b false])
    (.test (!(uI (out r2 0) 0 == uI (out r3 0) 0 && (uI (out r2 0) 1 == uI (out r3 0) 1 && (ByteArray.toList (uS (out r2 0) 2) == ByteArray.toList (uS (out r3 0) 2) && true))))
    (.stop 0 [.b false])
    (.test (!uB (out r2 0) 3 == uB (out r3 0) 3)
    (.stop 0 [.b false])
    (.test (!uB (out r0 0) 3)
    (.test (uI (out r0 0) 0 == (0 : Int) && (uI (out r0 0) 1 == (0 : Int) && (ByteArray.toList (uS (out r0 0) 2) == [] && true)))
    (.test (decide (v0 > (0 : Int)) == decide (v1 > (0 : Int)))
    (.test (v0 != (0 : Int))
    (.stop 0 [.b (v1 != (0 : Int))])
    (.stop 0 [.b false]))
    (.stop 0 [.b false]))
    (.stop 0 [.b false]))
    (let r4 : Rs := (Rt.res (m_value_Sub [U.i (uI (out r0 0) 0), U.i (uI (out r0 0) 1), U.s (uS (out r0 0) 2), U.i (2 : Int), U.i v1, U.s { data := #[] }]))
    (.test (ok r4 0)
    (.test (uB (out r4 0) 3)
    (.test (uI (out r4 0) 0 == (2 : Int) && (uI (out r4 0) 1 == v0 && (ByteArray.toList (uS (out r4 0) 2) == [] && true)))
    (.test (decide (v1 > (0 : Int)))
    (.test (decide (uI (out r0 0) 1 > v0))
    (.stop 0 [.b true])
    (.test (decide (v1 < (0 : Int)))
    (.test (decide (uI (out r0 0) 1 < v0))
    (.stop 0 [.b true])
    (.test (v1 == (0 : Int))
    (.stop 0 [.b (uI (out r0 0) 1 == v0)])
    (.stop 0 [.b false])))
    (.test (v1 == (0 : Int))
    (.stop 0 [.b (uI (out r0 0) 1 == v0)])
    (.stop 0 [.b false]))))
    (.test (decide (v1 < (0 : Int)))
    (.test (decide (uI (out r0 0) 1 < v0))
    (.stop 0 [.b true])
    (.test (v1 == (0 : Int))
    (.stop 0 [.b (uI (out r0 0) 1 == v0)])
    (.stop 0 [.b false])))
    (.test (v1 == (0 : Int))
    (.stop 0 [.b (uI (out r0 0) 1 == v0)])
    (.stop 0 [.b false]))))
    (.stop 0 [.b false]))
    (.stop 0 [.b false]))
    .fail)))))))
    .fail))
    .fail))
    .fail))
    .fail))
  | _ => .fail
set_option maxRecDepth 100000 in
theorem q_L01_ValueSums (v0 : Int) (v1 : Int) : callK br Tryd.prog X31 M_L01_ValueSums L_L01_ValueSums (lsT []) 60 8 (encs [.i v0, .i v1] 0 S_L01_ValueSums.ap) (encH [.i v0, .i v1] (ws S_L01_ValueSums.ap) S_L01_ValueSums.ah) (fun y => fixR Tryd.prog S_L01_ValueSums.plan S_L01_ValueSums.ah.length y) =
    (m_L01_ValueSums [.i v0, .i v1]).go br (fun _ => none) S_L01_ValueSums.fin := by
  rw [← callF_eq]; kernel_rfl
theorem e_L01_ValueSums : EOK Tryd.prog 8 (gF S_L01_ValueSums m_L01_ValueSums) :=
  eokTold mixed named x31 (loopsOK_list rids noneIn) 60 S_L01_ValueSums m_L01_ValueSums (by
    intro us v h; unfold m_L01_ValueSums at h; split at h
    · rename_i v0 v1; exact q_L01_ValueSums v0 v1
    · cases h) false
noncomputable abbrev X32 : Ext := extT [(8, (gF S_L01_ValueSums m_L01_ValueSums))] X31
theorem x32 : XOK Tryd.prog X32 := xok1 x31 e_L01_ValueSums

end Go.Proofs.YtccgmaeflmbmlaaDoor

namespace Go.Proofs.YtccgmaeflmbmlaaDoor
open Go Go.Pu
noncomputable abbrev XH : Ext := extT [(80, gGrow)] X32
theorem xH : XOK Tryd.prog XH := xok1 x32 eGrow
end Go.Proofs.YtccgmaeflmbmlaaDoor
