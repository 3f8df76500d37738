/- For every input the law leveelaw16.RelTwice returns true, and its input reads as it did. No condition. -/
import Derived.Test.YtinnnhiaamjjlaaVY
set_option linter.unusedVariables false
set_option linter.constructorNameAsVariable false
namespace Go.Proofs.Ytinnnhiaamjjlaa
open Go Go.Pu

set_option maxRecDepth 100000 in
theorem relTwice_pure (zs : List PV) (h : ArgsGd Try.prog [24, 30, 30] zs) : ∃ n hc, call Try.prog X146 M0 L0 n 6 zs [] = some (.bool true, hc) := by
  match zs, h with
  | [z0, z1, z2], ⟨h0, h1, h2, _⟩ =>
    obtain ⟨r, rfl, hr⟩ := arg_rel h0
    obtain ⟨x, k, t, rfl, hx⟩ := arg_put h1
    obtain ⟨y, v, u, rfl, hy⟩ := arg_put h2
    exact law_of_row (S := S_L16_RelTwice) (m := m_L16_RelTwice) (us := [.s (bs r.name), .l (r.recs.map Rec.e), .l (re x.row), .i x.tid, .i k.k, .i k.n, .s (bs k.s), .i t.k, .i t.n, .s (bs t.s), .l (re y.row), .i y.tid, .i v.k, .i v.n, .s (bs v.s), .i u.k, .i u.n, .s (bs u.s)]) (by kernel_rfl) (by kernel_rfl) rfl rfl (relTwice_res hr hx hy k t v u)

set_option maxRecDepth 100000 in
theorem relTwice_lifted (os : Os) (started : os.Started) (H : Type) (enc : TypeId × Value → H) :
    ReturnsInHanded {} Try.checked os 6 .any (Rows.relTwiceSpec.pre6 enc Try.prog Try.f6 Rows.relTwiceRow.domain false) (Rows.relTwiceSpec.post enc Try.prog Try.f6 false true false false) :=
  law_lifted (C := Try.checked) (m := 6) (rt := 4) rfl own started (by kernel_rfl) Try.func6
    (ChangeSpec.witness6 (enc := enc) (C := Try.checked) false ⟨#[], #[.agg #[.string ByteArray.empty, .slice none 0 0], .agg #[.slice none 0 0, .int .i64 0, .int .i64 0, .int .i64 0, .string ByteArray.empty, .int .i64 0, .int .i64 0, .string ByteArray.empty], .agg #[.slice none 0 0, .int .i64 0, .int .i64 0, .int .i64 0, .string ByteArray.empty, .int .i64 0, .int .i64 0, .string ByteArray.empty]], []⟩ 8 (by kernel_rfl) (by kernel_rfl) (by kernel_rfl) (by kernel_rfl))
    rfl (fun ds hl => by
      match ds, hl with
      | [d1, d2, d3], _ => rfl) (by kernel_rfl) (by kernel_rfl) laidOut (by kernel_rfl) (by kernel_rfl) mixed named x146 (fun xs hx => relTwice_pure xs hx)

theorem relTwice_holds : Rows.RelTwiceSaid :=
  OpenClaim.holds_of_wide 6 Try.f6 rfl rfl rfl rfl rfl rfl rfl ⟨rfl, rfl, rfl, rfl, rfl⟩ rfl rfl rfl rfl rfl (by kernel_rfl) Try.func6 (by kernel_rfl)
    (of_decide_eq_true (by kernel_rfl)) (by unfold Func.isWrapper; first | (rw [if_pos (by decide +kernel)]; kernel_rfl) | (rw [if_neg (by decide +kernel)]; exact ⟨rfl, rfl⟩))
    (fun os started H enc _ => relTwice_lifted os started H enc)

#print axioms relTwice_holds

end Go.Proofs.Ytinnnhiaamjjlaa
