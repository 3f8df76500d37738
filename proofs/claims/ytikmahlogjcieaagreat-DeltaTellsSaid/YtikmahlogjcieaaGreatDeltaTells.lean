/- For every input the law leveelaw13.DeltaTells returns true, and its input reads as it did. No condition. -/
import Derived.Test.YtikmahlogjcieaaGreatVY
set_option linter.unusedVariables false
set_option linter.constructorNameAsVariable false
namespace Go.Proofs.YtikmahlogjcieaaGreat
open Go Go.Pu

set_option maxRecDepth 100000 in
theorem deltaTells_pure (zs : List PV) (h : ArgsGd Tryz.prog [28, 41] zs) : ∃ n hc, call Tryz.prog X321 M0 L0 n 4 zs [] = some (.bool true, hc) := by
  match zs, h with
  | [z0, z1], ⟨h0, h1, _⟩ =>
    obtain ⟨v, rfl, hv⟩ := arg_view h0
    obtain ⟨A, dA, B, dB, rfl, hA, hdA, hB, hdB⟩ := arg_four h1
    exact law_of_row (S := S_L13_DeltaTells) (m := m_L13_DeltaTells) (us := v.us ++ [.l (A.map Cnt.e), .l (dA.map Cnt.e), .l (B.map Cnt.e), .l (dB.map Cnt.e)]) (by kernel_rfl) (by kernel_rfl) rfl rfl (deltaTells_res v.n0 v.n1 v.w v.i v.j v.wh hv.1 v.pk v.g v.ag A dA B dB hA hdA hB hdB)

set_option maxRecDepth 100000 in
theorem deltaTells_lifted (os : Os) (started : os.Started) (H : Type) (enc : TypeId × Value → H) :
    ReturnsInHanded {} Tryz.checked os 4 .any (Rows.deltaTellsSpec.pre6 enc Tryz.prog Tryz.f4 Rows.deltaTellsRow.domain false) (Rows.deltaTellsSpec.post enc Tryz.prog Tryz.f4 false true false false) :=
  law_lifted (C := Tryz.checked) (m := 6) (rt := 4) rfl own started (by kernel_rfl) Tryz.func4
    (ChangeSpec.witness6 (enc := enc) (C := Tryz.checked) false ⟨#[], #[.agg #[.string ByteArray.empty, .string ByteArray.empty, .string ByteArray.empty, .int .i64 0, .int .i64 0, .slice none 0 0, .slice none 0 0, .bool false, .slice none 0 0], .agg #[.slice none 0 0, .slice none 0 0, .slice none 0 0, .slice none 0 0]], []⟩ 8 (by kernel_rfl) (by kernel_rfl) (by kernel_rfl) (by kernel_rfl))
    rfl (fun ds hl => by
      match ds, hl with
      | [d1, d2], _ => rfl) (by kernel_rfl) (by kernel_rfl) laidOut (by kernel_rfl) (by kernel_rfl) mixed named x321 (fun xs hx => deltaTells_pure xs hx)

theorem deltaTells_holds : Rows.DeltaTellsSaid :=
  OpenClaim.holds_of_wide 4 Tryz.f4 rfl rfl rfl rfl rfl rfl rfl ⟨rfl, rfl, rfl, rfl, rfl⟩ rfl rfl rfl rfl rfl (by kernel_rfl) Tryz.func4 (by kernel_rfl)
    (of_decide_eq_true (by kernel_rfl)) (by unfold Func.isWrapper; first | (rw [if_pos (by decide +kernel)]; kernel_rfl) | (rw [if_neg (by decide +kernel)]; exact ⟨rfl, rfl⟩))
    (fun os started H enc _ => deltaTells_lifted os started H enc)

#print axioms deltaTells_holds

end Go.Proofs.YtikmahlogjcieaaGreat
