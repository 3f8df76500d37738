/- For every input the law leveelaw10.QueryMeets returns true, and its input reads as it did. No condition. -/
import Derived.Test.YtikmahlogjcieaaVY
set_option linter.unusedVariables false
set_option linter.constructorNameAsVariable false
namespace Go.Proofs.Ytikmahlogjcieaa
open Go Go.Pu

set_option maxRecDepth 100000 in
theorem queryMeets_pure (zs : List PV) (h : ArgsGd Try.prog [28, 30, 30] zs) : ∃ n hc, call Try.prog X321 M0 L0 n 4 zs [] = some (.bool true, hc) := by
  match zs, h with
  | [z0, z1, z2], ⟨h0, h1, h2, _⟩ =>
    obtain ⟨v, rfl, hv⟩ := arg_view h0
    obtain ⟨A, rfl, hA⟩ := arg_bagQ h1
    obtain ⟨B, rfl, hB⟩ := arg_bagQ h2
    exact law_of_row (S := S_L10_QueryMeets) (m := m_L10_QueryMeets) (us := v.us ++ [.l (A.map Cnt.e), .l (B.map Cnt.e)]) (by kernel_rfl) (by kernel_rfl) rfl rfl (queryMeets_res v.n0 v.n1 v.w v.i v.j (v.pk.map kE) v.g v.ag (v.wh.map Nd.e) A B hA hB)

set_option maxRecDepth 100000 in
theorem queryMeets_lifted (os : Os) (started : os.Started) (H : Type) (enc : TypeId × Value → H) :
    ReturnsInHanded {} Try.checked os 4 .any (Rows.queryMeetsSpec.pre6 enc Try.prog Try.f4 Rows.queryMeetsRow.domain false) (Rows.queryMeetsSpec.post enc Try.prog Try.f4 false true false false) :=
  law_lifted (C := Try.checked) (m := 6) (rt := 4) rfl own started (by kernel_rfl) Try.func4
    (ChangeSpec.witness6 (enc := enc) (C := Try.checked) false ⟨#[], #[.agg #[.string ByteArray.empty, .string ByteArray.empty, .string ByteArray.empty, .int .i64 0, .int .i64 0, .slice none 0 0, .slice none 0 0, .bool false, .slice none 0 0], .slice none 0 0, .slice none 0 0], []⟩ 8 (by kernel_rfl) (by kernel_rfl) (by kernel_rfl) (by kernel_rfl))
    rfl (fun ds hl => by
      match ds, hl with
      | [d1, d2, d3], _ => rfl) (by kernel_rfl) (by kernel_rfl) laidOut (by kernel_rfl) (by kernel_rfl) mixed named x321 (fun xs hx => queryMeets_pure xs hx)

theorem queryMeets_holds : Rows.QueryMeetsSaid :=
  OpenClaim.holds_of_wide 4 Try.f4 rfl rfl rfl rfl rfl rfl rfl ⟨rfl, rfl, rfl, rfl, rfl⟩ rfl rfl rfl rfl rfl (by kernel_rfl) Try.func4 (by kernel_rfl)
    (of_decide_eq_true (by kernel_rfl)) (by unfold Func.isWrapper; first | (rw [if_pos (by decide +kernel)]; kernel_rfl) | (rw [if_neg (by decide +kernel)]; exact ⟨rfl, rfl⟩))
    (fun os started H enc _ => queryMeets_lifted os started H enc)

#print axioms queryMeets_holds

end Go.Proofs.Ytikmahlogjcieaa
