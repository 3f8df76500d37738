/- For every input the law leveelaw10.QueryLinear returns true, and its input reads as it did. No condition. -/
import Derived.Test.YtikmahlogjcieaaVL
import Derived.Test.YtikmahlogjcieaaVY
set_option linter.unusedVariables false
set_option linter.constructorNameAsVariable false
namespace Go.Proofs.Ytikmahlogjcieaa
open Go Go.Pu

set_option maxRecDepth 100000 in
theorem queryLinear_pure (zs : List PV) (h : ArgsGd Try.prog [28, 32] zs) : ∃ n hc, call Try.prog X301 M0 L0 n 3 zs [] = some (.bool true, hc) := by
  match zs, h with
  | [z0, z1], ⟨h0, h1, _⟩ =>
    obtain ⟨v, rfl, hv⟩ := arg_view h0
    obtain ⟨A, B, C, rfl, hA, hB, hC⟩ := arg_three h1
    exact law_of_row (S := S_L10_QueryLinear) (m := m_L10_QueryLinear) (us := v.us ++ [.l (A.map Cnt.e), .l (B.map Cnt.e), .l (C.map Cnt.e)]) (by kernel_rfl) (by kernel_rfl) rfl rfl (queryLinear_res v.n0 v.n1 v.w v.i v.j v.wh hv.1 v.pk v.g v.ag A B C hA hB hC)

set_option maxRecDepth 100000 in
theorem queryLinear_lifted (os : Os) (started : os.Started) (H : Type) (enc : TypeId × Value → H) :
    ReturnsInHanded {} Try.checked os 3 .any (Rows.queryLinearSpec.pre6 enc Try.prog Try.f3 Rows.queryLinearRow.domain false) (Rows.queryLinearSpec.post enc Try.prog Try.f3 false true false false) :=
  law_lifted (C := Try.checked) (m := 6) (rt := 4) rfl own started (by kernel_rfl) Try.func3
    (ChangeSpec.witness6 (enc := enc) (C := Try.checked) false ⟨#[], #[.agg #[.string ByteArray.empty, .string ByteArray.empty, .string ByteArray.empty, .int .i64 0, .int .i64 0, .slice none 0 0, .slice none 0 0, .bool false, .slice none 0 0], .agg #[.slice none 0 0, .slice none 0 0, .slice none 0 0]], []⟩ 8 (by kernel_rfl) (by kernel_rfl) (by kernel_rfl) (by kernel_rfl))
    rfl (fun ds hl => by
      match ds, hl with
      | [d1, d2], _ => rfl) (by kernel_rfl) (by kernel_rfl) laidOut (by kernel_rfl) (by kernel_rfl) mixed named x301 (fun xs hx => queryLinear_pure xs hx)

theorem queryLinear_holds : Rows.QueryLinearSaid :=
  OpenClaim.holds_of_wide 3 Try.f3 rfl rfl rfl rfl rfl rfl rfl ⟨rfl, rfl, rfl, rfl, rfl⟩ rfl rfl rfl rfl rfl (by kernel_rfl) Try.func3 (by kernel_rfl)
    (of_decide_eq_true (by kernel_rfl)) (by unfold Func.isWrapper; first | (rw [if_pos (by decide +kernel)]; kernel_rfl) | (rw [if_neg (by decide +kernel)]; exact ⟨rfl, rfl⟩))
    (fun os started H enc _ => queryLinear_lifted os started H enc)

#print axioms queryLinear_holds

end Go.Proofs.Ytikmahlogjcieaa
