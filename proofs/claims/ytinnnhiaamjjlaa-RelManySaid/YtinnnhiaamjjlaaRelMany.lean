/- For every input the law leveelaw16.RelMany returns true, and its input reads as it did. No condition. -/
import Derived.Test.YtinnnhiaamjjlaaVY
set_option linter.unusedVariables false
set_option linter.constructorNameAsVariable false
namespace Go.Proofs.Ytinnnhiaamjjlaa
open Go Go.Pu

set_option maxRecDepth 100000 in
theorem relMany_pure (zs : List PV) (h : ArgsGd Try.prog [3, 3] zs) : ∃ n hc, call Try.prog X147 M0 L0 n 7 zs [] = some (.bool true, hc) := by
  match zs, h with
  | [z0, z1], ⟨h0, h1, _⟩ =>
    obtain ⟨n, rfl, _⟩ := arg_int h0
    obtain ⟨s, rfl, _⟩ := arg_int h1
    exact law_of_row (S := S_L16_RelMany) (m := m_L16_RelMany) (us := [.i n, .i s]) (by kernel_rfl) (by kernel_rfl) rfl rfl (relMany_res n s)

set_option maxRecDepth 100000 in
theorem relMany_lifted (os : Os) (started : os.Started) (H : Type) (enc : TypeId × Value → H) :
    ReturnsInHanded {} Try.checked os 7 .any (Rows.relManySpec.pre6 enc Try.prog Try.f7 Rows.relManyRow.domain false) (Rows.relManySpec.post enc Try.prog Try.f7 false true false false) :=
  law_lifted (C := Try.checked) (m := 6) (rt := 4) rfl own started (by kernel_rfl) Try.func7
    (ChangeSpec.witness6 (enc := enc) (C := Try.checked) false ⟨#[], #[.int .i64 0, .int .i64 0], []⟩ 8 (by kernel_rfl) (by kernel_rfl) (by kernel_rfl) (by kernel_rfl))
    rfl (fun ds hl => by
      match ds, hl with
      | [d1, d2], _ => rfl) (by kernel_rfl) (by kernel_rfl) laidOut (by kernel_rfl) (by kernel_rfl) mixed named x147 (fun xs hx => relMany_pure xs hx)

theorem relMany_holds : Rows.RelManySaid :=
  OpenClaim.holds_of_wide 7 Try.f7 rfl rfl rfl rfl rfl rfl rfl ⟨rfl, rfl, rfl, rfl, rfl⟩ rfl rfl rfl rfl rfl (by kernel_rfl) Try.func7 (by kernel_rfl)
    (of_decide_eq_true (by kernel_rfl)) (by unfold Func.isWrapper; first | (rw [if_pos (by decide +kernel)]; kernel_rfl) | (rw [if_neg (by decide +kernel)]; exact ⟨rfl, rfl⟩))
    (fun os started H enc _ => relMany_lifted os started H enc)

#print axioms relMany_holds

end Go.Proofs.Ytinnnhiaamjjlaa
