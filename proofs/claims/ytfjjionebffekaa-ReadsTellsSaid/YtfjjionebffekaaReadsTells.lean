/- For every input the law leveelaw20.ReadsTells returns true, and its input reads as it did. No condition. -/
import Derived.Test.YtfjjionebffekaaPX4
set_option linter.unusedVariables false
set_option linter.constructorNameAsVariable false
namespace Go.Proofs.Ytfjjionebffekaa
open Go Go.Pu

set_option maxRecDepth 100000 in
theorem readsTells_pure (zs : List PV) (h : ArgsGd Try.prog [22, 32] zs) : ∃ n hc, call Try.prog X52 M0 L0 n 3 zs [] = some (.bool true, hc) := by
  match zs, h with
  | [x, y], ⟨h1, h2, _⟩ =>
    obtain ⟨l, rfl, hl⟩ := arg_rels h1
    obtain ⟨a, rfl, ha⟩ := arg_ask h2
    exact law_of_row (S := S_L20_ReadsTells) (m := m_L20_ReadsTells) (us := .l (l.map Rel.e) :: a.us) (by kernel_rfl) (by kernel_rfl) rfl rfl (readsTells_res hl ha)

set_option maxRecDepth 100000 in
theorem readsTells_lifted (os : Os) (started : os.Started) (H : Type) (enc : TypeId × Value → H) :
    ReturnsInHanded {} Try.checked os 3 .any (Rows.readsTellsSpec.pre6 enc Try.prog Try.f3 Rows.readsTellsRow.domain false) (Rows.readsTellsSpec.post enc Try.prog Try.f3 false true false false) :=
  law_lifted (C := Try.checked) (m := 6) (rt := 4) own started (by kernel_rfl) Try.func3
    (ChangeSpec.witness6 (enc := enc) (C := Try.checked) false ⟨#[], #[.slice none 0 0, .agg #[.string ByteArray.empty, .int .i64 0, .int .i64 0, .string ByteArray.empty, .int .i64 0, .int .i64 0, .string ByteArray.empty, .slice none 0 0, .slice none 0 0, .slice none 0 0, .slice none 0 0]], []⟩ 8 (by kernel_rfl) (by kernel_rfl) (by kernel_rfl) (by kernel_rfl))
    rfl (fun ds hl => by
      match ds, hl with
      | [d1, d2], _ => rfl) (by kernel_rfl) (by kernel_rfl) laidOut (by kernel_rfl) (by kernel_rfl) mixed named x52 (fun xs hx => readsTells_pure xs hx)

theorem readsTells_holds : Rows.ReadsTellsSaid :=
  OpenClaim.holds_of_wide 3 Try.f3 rfl rfl rfl rfl rfl rfl rfl ⟨rfl, rfl, rfl, rfl, rfl⟩ rfl rfl rfl rfl rfl (by kernel_rfl) Try.func3 (by kernel_rfl)
    (of_decide_eq_true (by kernel_rfl)) (by unfold Func.isWrapper; first | (rw [if_pos (by decide +kernel)]; kernel_rfl) | (rw [if_neg (by decide +kernel)]; exact ⟨rfl, rfl⟩))
    (fun os started H enc _ => readsTells_lifted os started H enc)

#print axioms readsTells_holds

end Go.Proofs.Ytfjjionebffekaa
