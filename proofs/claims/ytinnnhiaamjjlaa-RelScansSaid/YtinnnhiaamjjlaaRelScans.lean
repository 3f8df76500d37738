/- For every input the law leveelaw16.RelScans returns true, and its input reads as it did. No condition. -/
import Derived.Test.YtinnnhiaamjjlaaVY
set_option linter.unusedVariables false
set_option linter.constructorNameAsVariable false
namespace Go.Proofs.Ytinnnhiaamjjlaa
open Go Go.Pu

set_option maxRecDepth 100000 in
theorem relScans_pure (zs : List PV) (h : ArgsGd Try.prog [24, 51] zs) : ∃ n hc, call Try.prog X145 M0 L0 n 5 zs [] = some (.bool true, hc) := by
  match zs, h with
  | [z0, z1], ⟨h0, h1, _⟩ =>
    obtain ⟨r, rfl, hr⟩ := arg_rel h0
    obtain ⟨a, b, c, rfl⟩ := arg_keys h1
    exact law_of_row (S := S_L16_RelScans) (m := m_L16_RelScans) (us := [.s (bs r.name), .l (r.recs.map Rec.e), .i a.k, .i a.n, .s (bs a.s), .i b.k, .i b.n, .s (bs b.s), .i c.k, .i c.n, .s (bs c.s)]) (by kernel_rfl) (by kernel_rfl) rfl rfl (relScans_res hr a b c)

set_option maxRecDepth 100000 in
theorem relScans_lifted (os : Os) (started : os.Started) (H : Type) (enc : TypeId × Value → H) :
    ReturnsInHanded {} Try.checked os 5 .any (Rows.relScansSpec.pre6 enc Try.prog Try.f5 Rows.relScansRow.domain false) (Rows.relScansSpec.post enc Try.prog Try.f5 false true false false) :=
  law_lifted (C := Try.checked) (m := 6) (rt := 4) rfl own started (by kernel_rfl) Try.func5
    (ChangeSpec.witness6 (enc := enc) (C := Try.checked) false ⟨#[], #[.agg #[.string ByteArray.empty, .slice none 0 0], .agg #[.int .i64 0, .int .i64 0, .string ByteArray.empty, .int .i64 0, .int .i64 0, .string ByteArray.empty, .int .i64 0, .int .i64 0, .string ByteArray.empty]], []⟩ 8 (by kernel_rfl) (by kernel_rfl) (by kernel_rfl) (by kernel_rfl))
    rfl (fun ds hl => by
      match ds, hl with
      | [d1, d2], _ => rfl) (by kernel_rfl) (by kernel_rfl) laidOut (by kernel_rfl) (by kernel_rfl) mixed named x145 (fun xs hx => relScans_pure xs hx)

theorem relScans_holds : Rows.RelScansSaid :=
  OpenClaim.holds_of_wide 5 Try.f5 rfl rfl rfl rfl rfl rfl rfl ⟨rfl, rfl, rfl, rfl, rfl⟩ rfl rfl rfl rfl rfl (by kernel_rfl) Try.func5 (by kernel_rfl)
    (of_decide_eq_true (by kernel_rfl)) (by unfold Func.isWrapper; first | (rw [if_pos (by decide +kernel)]; kernel_rfl) | (rw [if_neg (by decide +kernel)]; exact ⟨rfl, rfl⟩))
    (fun os started H enc _ => relScans_lifted os started H enc)

#print axioms relScans_holds

end Go.Proofs.Ytinnnhiaamjjlaa
