/- For every input the law leveelaw03.ExprTrue returns true, and its input reads as it did. No condition. -/
import Derived.Test.YthmljoalohpafaaDoorVX
import Derived.Test.YthmljoalohpafaaDoorKX
import Derived.Test.YthmljoalohpafaaDoorTie
import Derived.Test.YthmljoalohpafaaDoorCards
set_option linter.unusedVariables false
set_option linter.constructorNameAsVariable false
namespace Go.Proofs.YthmljoalohpafaaDoor
open Go Go.Pu

set_option maxRecDepth 100000 in
theorem exprTrue_pure (zs : List PV) (h : ArgsGd Tryd.prog [23, 26] zs) : ∃ n hc, call Tryd.prog X36 M0 L0 n 5 zs [] = some (.bool true, hc) := by
  match zs, h with
  | [x, y], ⟨h1, h2, _⟩ =>
    obtain ⟨e, rfl, hE, he⟩ := arg_expr h1
    obtain ⟨r, rfl, hr⟩ := arg_rowE h2
    exact law_of_row (S := S_L03_ExprTrue) (m := m_L03_ExprTrue) (us := [.l (e.map Nd.e), .l (re r)]) (by kernel_rfl) (by kernel_rfl) rfl rfl (exprTrue_res e hE he r hr)

set_option maxRecDepth 100000 in
theorem exprTrue_lifted (os : Os) (started : os.Started) (H : Type) (enc : TypeId × Value → H) :
    ReturnsInHanded {} Tryd.checked os 5 .any (fun w args => (Rows.exprTrueSpec.pre enc Tryd.prog Tryd.f5 [] false w args ∧ laidMetH Tryd.prog seatLaid w) ∧ sizedMet enc Tryd.prog Tryd.f5 (OpenSpec.ofChange Rows.exprTrueSpec) false w args)
      (Rows.exprTrueSpec.post enc Tryd.prog Tryd.f5 false true false false) :=
  law_laid (C := Tryd.checked) (laid := seatLaid) (m := 6) (rt := 4) own started (by kernel_rfl) Tryd.func5
    (ChangeSpec.witness_shaped (enc := enc) (C := Tryd.checked) (os := os) (X := fun w _ => laidMetH Tryd.prog seatLaid w) false (World.laidAll Tryd.prog os seatLaid) #[.slice none 0 0, .slice none 0 0] 8 (World.laidAll_os _ _ _)
      (World.shaped_of_ZipB (by kernel_rfl) (by kernel_rfl)) (by kernel_rfl) (by kernel_rfl) (by kernel_rfl) (laidWorld os _))
    laidPlain tabs_of rfl (fun ds hl => by
      match ds, hl with
      | [d1, d2], _ => rfl) (by kernel_rfl) (by kernel_rfl) laidOut (by kernel_rfl) (by kernel_rfl) mixed named x36 (fun xs hx => exprTrue_pure xs hx)

theorem exprTrue_row : Rows.ExprTrueSaid :=
  OpenClaim.holds_of_wide 5 Tryd.f5 rfl rfl rfl rfl rfl rfl rfl ⟨rfl, rfl, rfl, rfl, rfl⟩ rfl rfl rfl rfl rfl (by kernel_rfl) Tryd.func5 (by kernel_rfl)
    (of_decide_eq_true (by kernel_rfl)) (by unfold Func.isWrapper; first | (rw [if_pos (by decide +kernel)]; kernel_rfl) | (rw [if_neg (by decide +kernel)]; exact ⟨rfl, rfl⟩))
    (fun os started H enc _ => exprTrue_lifted os started H enc)

theorem exprTrue_holds : Rows.ExprTrueCardSaid :=
  Claim7.holds_tied_plain_at .later [] [.data, .data, .data, .data, .pinned] true (true, "70c3880c27d94f5034d0dd18a2faee81cda9d37fe1209b8c5d581e0610d03ca7") false exprTrue_row (fun _ h => by cases h) (by kernel_rfl) (fun _ h => by cases h) exprTrue_row_tie rfl ⟨rfl, rfl⟩ (by kernel_rfl) rfl
    (fun f fn hf hfn => by
      obtain rfl : f = 5 := Option.some.inj ((show Tryd.prog.funcNamed Tryd.f5.name = some 5 by kernel_rfl).symm.trans hf) |>.symm
      obtain rfl : fn = Tryd.f5 := (Option.some.inj (Tryd.func5.symm.trans hfn)).symm
      refine ⟨by kernel_rfl, fun j t ht => ?_⟩
      have hall : (Tryd.f5.params.toList.all fun u => !Tryd.prog.wantsStandIn u) = true := by kernel_rfl
      have hm : t ∈ Tryd.f5.params.toList := by simpa using Array.mem_of_getElem? ht
      exact (show Tryd.prog.wantsStandIn t = false by simpa using List.all_eq_true.1 hall t hm))
    (by kernel_rfl)

#print axioms exprTrue_holds

end Go.Proofs.YthmljoalohpafaaDoor
