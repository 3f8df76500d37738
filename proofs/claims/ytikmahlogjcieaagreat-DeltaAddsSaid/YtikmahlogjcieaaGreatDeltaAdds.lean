/- For every input the law leveelaw13.DeltaAdds returns true, and its input reads as it did. No condition. -/
import Derived.Test.YtikmahlogjcieaaGreatVY
set_option linter.unusedVariables false
set_option linter.constructorNameAsVariable false
namespace Go.Proofs.YtikmahlogjcieaaGreat
open Go Go.Pu

set_option maxRecDepth 100000 in
theorem deltaAdds_pure (zs : List PV) (h : ArgsGd Tryz.prog [28, 41, 4] zs) : ∃ n hc, call Tryz.prog X341 M0 L0 n 5 zs [] = some (.bool true, hc) := by
  match zs, h with
  | [z0, z1, z2], ⟨h0, h1, h2, _⟩ =>
    obtain ⟨v, rfl, hv⟩ := arg_view h0
    obtain ⟨A, dA, B, dB, rfl, hA, hdA, hB, hdB⟩ := arg_four h1
    obtain ⟨z, rfl⟩ := arg_bool h2
    exact law_of_row (S := S_L13_DeltaAdds) (m := m_L13_DeltaAdds) (us := v.us ++ [.l (A.map Cnt.e), .l (dA.map Cnt.e), .l (B.map Cnt.e), .l (dB.map Cnt.e), .b z]) (by kernel_rfl) (by kernel_rfl) rfl rfl (deltaAdds_res v.n0 v.n1 v.w v.i v.j v.wh hv.1 v.pk v.g v.ag A dA B dB hA hdA hB hdB z)

set_option maxRecDepth 100000 in
theorem deltaAdds_lifted (os : Os) (started : os.Started) (H : Type) (enc : TypeId × Value → H) :
    ReturnsInHanded {} Tryz.checked os 5 .any (Rows.deltaAddsSpec.pre6 enc Tryz.prog Tryz.f5 Rows.deltaAddsRow.domain false) (Rows.deltaAddsSpec.post enc Tryz.prog Tryz.f5 false true false false) :=
  law_lifted (C := Tryz.checked) (m := 6) (rt := 4) rfl own started (by kernel_rfl) Tryz.func5
    (ChangeSpec.witness6 (enc := enc) (C := Tryz.checked) false ⟨#[], #[.agg #[.string ByteArray.empty, .string ByteArray.empty, .string ByteArray.empty, .int .i64 0, .int .i64 0, .slice none 0 0, .slice none 0 0, .bool false, .slice none 0 0], .agg #[.slice none 0 0, .slice none 0 0, .slice none 0 0, .slice none 0 0], .bool false], []⟩ 8 (by kernel_rfl) (by kernel_rfl) (by kernel_rfl) (by kernel_rfl))
    rfl (fun ds hl => by
      match ds, hl with
      | [d1, d2, d3], _ => rfl) (by kernel_rfl) (by kernel_rfl) laidOut (by kernel_rfl) (by kernel_rfl) mixed named x341 (fun xs hx => deltaAdds_pure xs hx)

theorem deltaAdds_holds : Rows.DeltaAddsSaid :=
  OpenClaim.holds_of_wide 5 Tryz.f5 rfl rfl rfl rfl rfl rfl rfl ⟨rfl, rfl, rfl, rfl, rfl⟩ rfl rfl rfl rfl rfl (by kernel_rfl) Tryz.func5 (by kernel_rfl)
    (of_decide_eq_true (by kernel_rfl)) (by unfold Func.isWrapper; first | (rw [if_pos (by decide +kernel)]; kernel_rfl) | (rw [if_neg (by decide +kernel)]; exact ⟨rfl, rfl⟩))
    (fun os started H enc _ => deltaAdds_lifted os started H enc)

#print axioms deltaAdds_holds

end Go.Proofs.YtikmahlogjcieaaGreat
