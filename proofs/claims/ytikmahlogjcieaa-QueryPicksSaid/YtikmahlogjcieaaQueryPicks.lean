/- For every input the law leveelaw10.QueryPicks returns true, and its input reads as it did. No condition. -/
import Derived.Test.YtikmahlogjcieaaVY
set_option linter.unusedVariables false
set_option linter.constructorNameAsVariable false
namespace Go.Proofs.Ytikmahlogjcieaa
open Go Go.Pu

set_option maxRecDepth 100000 in
theorem queryPicks_pure (zs : List PV) (h : ArgsGd Try.prog [28, 30] zs) : ∃ n hc, call Try.prog X361 M0 L0 n 6 zs [] = some (.bool true, hc) := by
  match zs, h with
  | [z0, z1], ⟨h0, h1, _⟩ =>
    obtain ⟨v, rfl, hv⟩ := arg_view h0
    obtain ⟨B, rfl, hB⟩ := arg_bagQ h1
    exact law_of_row (S := S_L10_QueryPicks) (m := m_L10_QueryPicks) (us := v.us ++ [.l (B.map Cnt.e)]) (by kernel_rfl) (by kernel_rfl) rfl rfl (queryPicks_res v.n0 v.n1 v.w v.i v.j (v.wh.map Nd.e) v.pk v.g v.ag B hB)

set_option maxRecDepth 100000 in
theorem queryPicks_lifted (os : Os) (started : os.Started) (H : Type) (enc : TypeId × Value → H) :
    ReturnsInHanded {} Try.checked os 6 .any (Rows.queryPicksSpec.pre6 enc Try.prog Try.f6 Rows.queryPicksRow.domain false) (Rows.queryPicksSpec.post enc Try.prog Try.f6 false true false false) :=
  law_lifted (C := Try.checked) (m := 6) (rt := 4) rfl own started (by kernel_rfl) Try.func6
    (ChangeSpec.witness6 (enc := enc) (C := Try.checked) false ⟨#[], #[.agg #[.string ByteArray.empty, .string ByteArray.empty, .string ByteArray.empty, .int .i64 0, .int .i64 0, .slice none 0 0, .slice none 0 0, .bool false, .slice none 0 0], .slice none 0 0], []⟩ 8 (by kernel_rfl) (by kernel_rfl) (by kernel_rfl) (by kernel_rfl))
    rfl (fun ds hl => by
      match ds, hl with
      | [d1, d2], _ => rfl) (by kernel_rfl) (by kernel_rfl) laidOut (by kernel_rfl) (by kernel_rfl) mixed named x361 (fun xs hx => queryPicks_pure xs hx)

theorem queryPicks_holds : Rows.QueryPicksSaid :=
  OpenClaim.holds_of_wide 6 Try.f6 rfl rfl rfl rfl rfl rfl rfl ⟨rfl, rfl, rfl, rfl, rfl⟩ rfl rfl rfl rfl rfl (by kernel_rfl) Try.func6 (by kernel_rfl)
    (of_decide_eq_true (by kernel_rfl)) (by unfold Func.isWrapper; first | (rw [if_pos (by decide +kernel)]; kernel_rfl) | (rw [if_neg (by decide +kernel)]; exact ⟨rfl, rfl⟩))
    (fun os started H enc _ => queryPicks_lifted os started H enc)

#print axioms queryPicks_holds

end Go.Proofs.Ytikmahlogjcieaa
