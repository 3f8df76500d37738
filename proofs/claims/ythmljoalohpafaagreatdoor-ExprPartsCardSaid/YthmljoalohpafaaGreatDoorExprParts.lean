/- For every input the law leveelaw03.ExprParts returns true, and its input reads as it did. No condition. -/
import Derived.Test.YthmljoalohpafaaGreatDoorVX
import Derived.Test.YthmljoalohpafaaGreatDoorKX
import Derived.Test.YthmljoalohpafaaGreatDoorTie
import Derived.Test.YthmljoalohpafaaGreatDoorCards
set_option linter.unusedVariables false
set_option linter.constructorNameAsVariable false
namespace Go.Proofs.YthmljoalohpafaaGreatDoor
open Go Go.Pu

set_option maxRecDepth 100000 in
theorem exprParts_pure (zs : List PV) (h : ArgsGd Tryz.prog [27] zs) : ∃ n hc, call Tryz.prog X47 M0 L0 n 3 zs [] = some (.bool true, hc) := by
  match zs, h with
  | [x], ⟨h1, _⟩ =>
    obtain ⟨a, b, op, r, rfl, a1, b1, a2, b2, ho, hr⟩ := arg_parts h1
    exact law_of_row (S := S_L03_ExprParts) (m := m_L03_ExprParts) (us := [.l (a.map Nd.e), .l (b.map Nd.e), .i op, .l (re r)]) (by kernel_rfl) (by kernel_rfl) rfl rfl (exprParts_res a b a1 b1 a2 b2 op ho r hr)

set_option maxRecDepth 100000 in
theorem exprParts_lifted (os : Os) (started : os.Started) (H : Type) (enc : TypeId × Value → H) :
    ReturnsInHanded {} Tryz.checked os 3 .any (fun w args => (Rows.exprPartsSpec.pre enc Tryz.prog Tryz.f3 [] false w args ∧ laidMetH Tryz.prog seatLaid w) ∧ sizedMet enc Tryz.prog Tryz.f3 (OpenSpec.ofChange Rows.exprPartsSpec) false w args)
      (Rows.exprPartsSpec.post enc Tryz.prog Tryz.f3 false true false false) :=
  law_laid (C := Tryz.checked) (laid := seatLaid) (m := 6) (rt := 4) own started (by kernel_rfl) Tryz.func3
    (ChangeSpec.witness_shaped (enc := enc) (C := Tryz.checked) (os := os) (X := fun w _ => laidMetH Tryz.prog seatLaid w) false (World.laidAll Tryz.prog os seatLaid) #[.agg #[.slice none 0 0, .slice none 0 0, .int .i64 0, .slice none 0 0]] 8 (World.laidAll_os _ _ _)
      (World.shaped_of_ZipB (by kernel_rfl) (by kernel_rfl)) (by kernel_rfl) (by kernel_rfl) (by kernel_rfl) (laidWorld os _))
    laidPlain tabs_of rfl (fun ds hl => by
      match ds, hl with
      | [d1], _ => rfl) (by kernel_rfl) (by kernel_rfl) laidOut (by kernel_rfl) (by kernel_rfl) mixed named x47 (fun xs hx => exprParts_pure xs hx)

theorem exprParts_row : Rows.ExprPartsSaid :=
  OpenClaim.holds_of_wide 3 Tryz.f3 rfl rfl rfl rfl rfl rfl rfl ⟨rfl, rfl, rfl, rfl, rfl⟩ rfl rfl rfl rfl rfl (by kernel_rfl) Tryz.func3 (by kernel_rfl)
    (of_decide_eq_true (by kernel_rfl)) (by unfold Func.isWrapper; first | (rw [if_pos (by decide +kernel)]; kernel_rfl) | (rw [if_neg (by decide +kernel)]; exact ⟨rfl, rfl⟩))
    (fun os started H enc _ => exprParts_lifted os started H enc)

theorem exprParts_holds : Rows.ExprPartsCardSaid :=
  Claim7.holds_tied_plain_at .later [] [.data, .data, .data, .data, .pinned] true (true, "36741f8c1055bbf3d0504358837bf3d0dae1f847a6d883d91d5d511bea1824e3") false exprParts_row (fun _ h => by cases h) (by kernel_rfl) (fun _ h => by cases h) exprParts_row_tie rfl ⟨rfl, rfl⟩ (by kernel_rfl) rfl
    (fun f fn hf hfn => by
      obtain rfl : f = 3 := Option.some.inj ((show Tryz.prog.funcNamed Tryz.f3.name = some 3 by kernel_rfl).symm.trans hf) |>.symm
      obtain rfl : fn = Tryz.f3 := (Option.some.inj (Tryz.func3.symm.trans hfn)).symm
      refine ⟨by kernel_rfl, fun j t ht => ?_⟩
      have hall : (Tryz.f3.params.toList.all fun u => !Tryz.prog.wantsStandIn u) = true := by kernel_rfl
      have hm : t ∈ Tryz.f3.params.toList := by simpa using Array.mem_of_getElem? ht
      exact (show Tryz.prog.wantsStandIn t = false by simpa using List.all_eq_true.1 hall t hm))
    (by kernel_rfl)

#print axioms exprParts_holds

end Go.Proofs.YthmljoalohpafaaGreatDoor
