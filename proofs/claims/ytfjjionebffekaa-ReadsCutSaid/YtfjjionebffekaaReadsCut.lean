/- For every input the law leveelaw20.ReadsCut returns true, and its input reads as it did. No condition. -/
import Derived.Test.YtfjjionebffekaaPX3
set_option linter.unusedVariables false
set_option linter.constructorNameAsVariable false
namespace Go.Proofs.Ytfjjionebffekaa
open Go Go.Pu

set_option maxRecDepth 100000 in
theorem readsCut_pure (zs : List PV) (h : ArgsGd Try.prog [40, 32] zs) : ∃ n hc, call Try.prog X58 M0 L0 n 7 zs [] = some (.bool true, hc) := by
  match zs, h with
  | [x, y], ⟨h1, h2, _⟩ =>
    obtain ⟨r, rfl, hr⟩ := arg_rel h1
    obtain ⟨a, rfl, ha⟩ := arg_ask h2
    exact law_of_row (S := S_L20_ReadsCut) (m := m_L20_ReadsCut) (us := [.s (bs r.name), .l (r.recs.map Rec.e)] ++ a.us) (by kernel_rfl) (by kernel_rfl) rfl rfl (readsCut_res hr ha)

set_option maxRecDepth 100000 in
theorem readsCut_lifted (os : Os) (started : os.Started) (H : Type) (enc : TypeId × Value → H) :
    ReturnsInHanded {} Try.checked os 7 .any (Rows.readsCutSpec.pre6 enc Try.prog Try.f7 Rows.readsCutRow.domain false) (Rows.readsCutSpec.post enc Try.prog Try.f7 false true false false) :=
  law_lifted (C := Try.checked) (m := 6) (rt := 4) own started (by kernel_rfl) Try.func7
    (ChangeSpec.witness6 (enc := enc) (C := Try.checked) false ⟨#[], #[.agg #[.string ByteArray.empty, .slice none 0 0], .agg #[.string ByteArray.empty, .int .i64 0, .int .i64 0, .string ByteArray.empty, .int .i64 0, .int .i64 0, .string ByteArray.empty, .slice none 0 0, .slice none 0 0, .slice none 0 0, .slice none 0 0]], []⟩ 8 (by kernel_rfl) (by kernel_rfl) (by kernel_rfl) (by kernel_rfl))
    rfl (fun ds hl => by
      match ds, hl with
      | [d1, d2], _ => rfl) (by kernel_rfl) (by kernel_rfl) laidOut (by kernel_rfl) (by kernel_rfl) mixed named x58 (fun xs hx => readsCut_pure xs hx)

theorem readsCut_holds : Rows.ReadsCutSaid :=
  OpenClaim.holds_of_wide 7 Try.f7 rfl rfl rfl rfl rfl rfl rfl ⟨rfl, rfl, rfl, rfl, rfl⟩ rfl rfl rfl rfl rfl (by kernel_rfl) Try.func7 (by kernel_rfl)
    (of_decide_eq_true (by kernel_rfl)) (by unfold Func.isWrapper; first | (rw [if_pos (by decide +kernel)]; kernel_rfl) | (rw [if_neg (by decide +kernel)]; exact ⟨rfl, rfl⟩))
    (fun os started H enc _ => readsCut_lifted os started H enc)

#print axioms readsCut_holds

end Go.Proofs.Ytfjjionebffekaa
