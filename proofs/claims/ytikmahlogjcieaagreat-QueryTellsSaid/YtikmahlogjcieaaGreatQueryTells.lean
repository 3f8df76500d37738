/- For every input the law leveelaw10.QueryTells returns true, and its input reads as it did. No condition. -/
import Derived.Test.YtikmahlogjcieaaGreatVY
set_option linter.unusedVariables false
set_option linter.constructorNameAsVariable false
namespace Go.Proofs.YtikmahlogjcieaaGreat
open Go Go.Pu

set_option maxRecDepth 100000 in
theorem queryTells_pure (zs : List PV) (h : ArgsGd Tryz.prog [28, 30, 30] zs) : ∃ n hc, call Tryz.prog X301 M0 L0 n 3 zs [] = some (.bool true, hc) := by
  match zs, h with
  | [z0, z1, z2], ⟨h0, h1, h2, _⟩ =>
    obtain ⟨v, rfl, hv⟩ := arg_view h0
    obtain ⟨A, rfl, hA⟩ := arg_bagQ h1
    obtain ⟨B, rfl, hB⟩ := arg_bagQ h2
    exact law_of_row (S := S_L10_QueryTells) (m := m_L10_QueryTells) (us := v.us ++ [.l (A.map Cnt.e), .l (B.map Cnt.e)]) (by kernel_rfl) (by kernel_rfl) rfl rfl (queryTells_res v.n0 v.n1 v.w v.i v.j v.wh hv.1 v.pk v.g v.ag A B hA hB)

set_option maxRecDepth 100000 in
theorem queryTells_lifted (os : Os) (started : os.Started) (H : Type) (enc : TypeId × Value → H) :
    ReturnsInHanded {} Tryz.checked os 3 .any (Rows.queryTellsSpec.pre6 enc Tryz.prog Tryz.f3 Rows.queryTellsRow.domain false) (Rows.queryTellsSpec.post enc Tryz.prog Tryz.f3 false true false false) :=
  law_lifted (C := Tryz.checked) (m := 6) (rt := 4) rfl own started (by kernel_rfl) Tryz.func3
    (ChangeSpec.witness6 (enc := enc) (C := Tryz.checked) false ⟨#[], #[.agg #[.string ByteArray.empty, .string ByteArray.empty, .string ByteArray.empty, .int .i64 0, .int .i64 0, .slice none 0 0, .slice none 0 0, .bool false, .slice none 0 0], .slice none 0 0, .slice none 0 0], []⟩ 8 (by kernel_rfl) (by kernel_rfl) (by kernel_rfl) (by kernel_rfl))
    rfl (fun ds hl => by
      match ds, hl with
      | [d1, d2, d3], _ => rfl) (by kernel_rfl) (by kernel_rfl) laidOut (by kernel_rfl) (by kernel_rfl) mixed named x301 (fun xs hx => queryTells_pure xs hx)

theorem queryTells_holds : Rows.QueryTellsSaid :=
  OpenClaim.holds_of_wide 3 Tryz.f3 rfl rfl rfl rfl rfl rfl rfl ⟨rfl, rfl, rfl, rfl, rfl⟩ rfl rfl rfl rfl rfl (by kernel_rfl) Tryz.func3 (by kernel_rfl)
    (of_decide_eq_true (by kernel_rfl)) (by unfold Func.isWrapper; first | (rw [if_pos (by decide +kernel)]; kernel_rfl) | (rw [if_neg (by decide +kernel)]; exact ⟨rfl, rfl⟩))
    (fun os started H enc _ => queryTells_lifted os started H enc)

#print axioms queryTells_holds

end Go.Proofs.YtikmahlogjcieaaGreat
