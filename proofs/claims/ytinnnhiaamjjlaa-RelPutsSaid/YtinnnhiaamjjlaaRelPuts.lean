/- For every input the law leveelaw16.RelPuts returns true, and its input reads as it did. No condition. -/
import Derived.Test.YtinnnhiaamjjlaaVY
set_option linter.unusedVariables false
set_option linter.constructorNameAsVariable false
namespace Go.Proofs.Ytinnnhiaamjjlaa
open Go Go.Pu

set_option maxRecDepth 100000 in
theorem relPuts_pure (zs : List PV) (h : ArgsGd Try.prog [24, 30] zs) : ∃ n hc, call Try.prog X144 M0 L0 n 4 zs [] = some (.bool true, hc) := by
  match zs, h with
  | [z0, z1], ⟨h0, h1, _⟩ =>
    obtain ⟨r, rfl, hr⟩ := arg_rel h0
    obtain ⟨c, k, t, rfl, hc⟩ := arg_put h1
    exact law_of_row (S := S_L16_RelPuts) (m := m_L16_RelPuts) (us := [.s (bs r.name), .l (r.recs.map Rec.e), .l (re c.row), .i c.tid, .i k.k, .i k.n, .s (bs k.s), .i t.k, .i t.n, .s (bs t.s)]) (by kernel_rfl) (by kernel_rfl) rfl rfl (relPuts_res hr hc k t)

set_option maxRecDepth 100000 in
theorem relPuts_lifted (os : Os) (started : os.Started) (H : Type) (enc : TypeId × Value → H) :
    ReturnsInHanded {} Try.checked os 4 .any (Rows.relPutsSpec.pre6 enc Try.prog Try.f4 Rows.relPutsRow.domain false) (Rows.relPutsSpec.post enc Try.prog Try.f4 false true false false) :=
  law_lifted (C := Try.checked) (m := 6) (rt := 4) rfl own started (by kernel_rfl) Try.func4
    (ChangeSpec.witness6 (enc := enc) (C := Try.checked) false ⟨#[], #[.agg #[.string ByteArray.empty, .slice none 0 0], .agg #[.slice none 0 0, .int .i64 0, .int .i64 0, .int .i64 0, .string ByteArray.empty, .int .i64 0, .int .i64 0, .string ByteArray.empty]], []⟩ 8 (by kernel_rfl) (by kernel_rfl) (by kernel_rfl) (by kernel_rfl))
    rfl (fun ds hl => by
      match ds, hl with
      | [d1, d2], _ => rfl) (by kernel_rfl) (by kernel_rfl) laidOut (by kernel_rfl) (by kernel_rfl) mixed named x144 (fun xs hx => relPuts_pure xs hx)

theorem relPuts_holds : Rows.RelPutsSaid :=
  OpenClaim.holds_of_wide 4 Try.f4 rfl rfl rfl rfl rfl rfl rfl ⟨rfl, rfl, rfl, rfl, rfl⟩ rfl rfl rfl rfl rfl (by kernel_rfl) Try.func4 (by kernel_rfl)
    (of_decide_eq_true (by kernel_rfl)) (by unfold Func.isWrapper; first | (rw [if_pos (by decide +kernel)]; kernel_rfl) | (rw [if_neg (by decide +kernel)]; exact ⟨rfl, rfl⟩))
    (fun os started H enc _ => relPuts_lifted os started H enc)

#print axioms relPuts_holds

end Go.Proofs.Ytinnnhiaamjjlaa
