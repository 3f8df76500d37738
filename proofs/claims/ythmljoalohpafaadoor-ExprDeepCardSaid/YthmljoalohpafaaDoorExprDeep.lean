/- For every input the law leveelaw03.ExprDeep returns true, and its input reads as it did. No condition. -/
import Derived.Test.YthmljoalohpafaaDoorVX
import Derived.Test.YthmljoalohpafaaDoorKX
import Derived.Test.YthmljoalohpafaaDoorTie
import Derived.Test.YthmljoalohpafaaDoorCards
set_option linter.unusedVariables false
set_option linter.constructorNameAsVariable false
namespace Go.Proofs.YthmljoalohpafaaDoor
open Go Go.Pu

set_option maxRecDepth 100000 in
theorem exprDeep_pure (zs : List PV) (h : ArgsGd Tryd.prog [3] zs) : ∃ n hc, call Tryd.prog X37 M0 L0 n 6 zs [] = some (.bool true, hc) := by
  match zs, h with
  | [x], ⟨h1, _⟩ =>
    obtain ⟨n, rfl, hn⟩ := arg_int h1
    exact law_of_row (S := S_L03_ExprDeep) (m := m_L03_ExprDeep) (us := [.i n]) (by kernel_rfl) (by kernel_rfl) rfl rfl (exprDeep_res n hn)

set_option maxRecDepth 100000 in
theorem exprDeep_lifted (os : Os) (started : os.Started) (H : Type) (enc : TypeId × Value → H) :
    ReturnsInHanded {} Tryd.checked os 6 .any (fun w args => (Rows.exprDeepSpec.pre enc Tryd.prog Tryd.f6 [] false w args ∧ laidMetH Tryd.prog seatLaid w) ∧ sizedMet enc Tryd.prog Tryd.f6 (OpenSpec.ofChange Rows.exprDeepSpec) false w args)
      (Rows.exprDeepSpec.post enc Tryd.prog Tryd.f6 false true false false) :=
  law_laid (C := Tryd.checked) (laid := seatLaid) (m := 6) (rt := 4) own started (by kernel_rfl) Tryd.func6
    (ChangeSpec.witness_shaped (enc := enc) (C := Tryd.checked) (os := os) (X := fun w _ => laidMetH Tryd.prog seatLaid w) false (World.laidAll Tryd.prog os seatLaid) #[.int .i64 0] 8 (World.laidAll_os _ _ _)
      (World.shaped_of_ZipB (by kernel_rfl) (by kernel_rfl)) (by kernel_rfl) (by kernel_rfl) (by kernel_rfl) (laidWorld os _))
    laidPlain tabs_of rfl (fun ds hl => by
      match ds, hl with
      | [d1], _ => rfl) (by kernel_rfl) (by kernel_rfl) laidOut (by kernel_rfl) (by kernel_rfl) mixed named x37 (fun xs hx => exprDeep_pure xs hx)

theorem exprDeep_row : Rows.ExprDeepSaid :=
  OpenClaim.holds_of_wide 6 Tryd.f6 rfl rfl rfl rfl rfl rfl rfl ⟨rfl, rfl, rfl, rfl, rfl⟩ rfl rfl rfl rfl rfl (by kernel_rfl) Tryd.func6 (by kernel_rfl)
    (of_decide_eq_true (by kernel_rfl)) (by unfold Func.isWrapper; first | (rw [if_pos (by decide +kernel)]; kernel_rfl) | (rw [if_neg (by decide +kernel)]; exact ⟨rfl, rfl⟩))
    (fun os started H enc _ => exprDeep_lifted os started H enc)

theorem exprDeep_holds : Rows.ExprDeepCardSaid :=
  Claim7.holds_tied_plain_at .later [] [.data, .data, .data, .data, .pinned] true (true, "70c3880c27d94f5034d0dd18a2faee81cda9d37fe1209b8c5d581e0610d03ca7") false exprDeep_row (fun _ h => by cases h) (by kernel_rfl) (fun _ h => by cases h) exprDeep_row_tie rfl ⟨rfl, rfl⟩ (by kernel_rfl) rfl
    (fun f fn hf hfn => by
      obtain rfl : f = 6 := Option.some.inj ((show Tryd.prog.funcNamed Tryd.f6.name = some 6 by kernel_rfl).symm.trans hf) |>.symm
      obtain rfl : fn = Tryd.f6 := (Option.some.inj (Tryd.func6.symm.trans hfn)).symm
      refine ⟨by kernel_rfl, fun j t ht => ?_⟩
      have hall : (Tryd.f6.params.toList.all fun u => !Tryd.prog.wantsStandIn u) = true := by kernel_rfl
      have hm : t ∈ Tryd.f6.params.toList := by simpa using Array.mem_of_getElem? ht
      exact (show Tryd.prog.wantsStandIn t = false by simpa using List.all_eq_true.1 hall t hm))
    (by kernel_rfl)

#print axioms exprDeep_holds

end Go.Proofs.YthmljoalohpafaaDoor
