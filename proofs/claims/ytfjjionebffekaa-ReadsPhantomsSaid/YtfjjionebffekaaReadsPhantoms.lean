/- For every input the law leveelaw20.ReadsPhantoms returns true, and its input reads as it did. No condition. -/
import Derived.Test.YtfjjionebffekaaPX3
set_option linter.unusedVariables false
set_option linter.constructorNameAsVariable false
namespace Go.Proofs.Ytfjjionebffekaa
open Go Go.Pu

set_option maxRecDepth 100000 in
theorem readsPhantoms_pure (zs : List PV) (h : ArgsGd Try.prog [40, 59, 32] zs) : ∃ n hc, call Try.prog X55 M0 L0 n 5 zs [] = some (.bool true, hc) := by
  match zs, h with
  | [x, y, z], ⟨h1, h2, h3, _⟩ =>
    obtain ⟨r, rfl, hr⟩ := arg_rel h1
    obtain ⟨c, rfl, hc⟩ := arg_rec h2
    obtain ⟨a, rfl, ha⟩ := arg_ask h3
    exact law_of_row (S := S_L20_ReadsPhantoms) (m := m_L20_ReadsPhantoms) (us := [.s (bs r.name), .l (r.recs.map Rec.e), .l (re c.row), .i c.tid] ++ a.us) (by kernel_rfl) (by kernel_rfl) rfl rfl (readsPhantoms_res hr hc ha)

set_option maxRecDepth 100000 in
theorem readsPhantoms_lifted (os : Os) (started : os.Started) (H : Type) (enc : TypeId × Value → H) :
    ReturnsInHanded {} Try.checked os 5 .any (Rows.readsPhantomsSpec.pre6 enc Try.prog Try.f5 Rows.readsPhantomsRow.domain false) (Rows.readsPhantomsSpec.post enc Try.prog Try.f5 false true false false) :=
  law_lifted (C := Try.checked) (m := 6) (rt := 4) own started (by kernel_rfl) Try.func5
    (ChangeSpec.witness6 (enc := enc) (C := Try.checked) false ⟨#[], #[.agg #[.string ByteArray.empty, .slice none 0 0], .agg #[.slice none 0 0, .int .i64 0], .agg #[.string ByteArray.empty, .int .i64 0, .int .i64 0, .string ByteArray.empty, .int .i64 0, .int .i64 0, .string ByteArray.empty, .slice none 0 0, .slice none 0 0, .slice none 0 0, .slice none 0 0]], []⟩ 8 (by kernel_rfl) (by kernel_rfl) (by kernel_rfl) (by kernel_rfl))
    rfl (fun ds hl => by
      match ds, hl with
      | [d1, d2, d3], _ => rfl) (by kernel_rfl) (by kernel_rfl) laidOut (by kernel_rfl) (by kernel_rfl) mixed named x55 (fun xs hx => readsPhantoms_pure xs hx)

theorem readsPhantoms_holds : Rows.ReadsPhantomsSaid :=
  OpenClaim.holds_of_wide 5 Try.f5 rfl rfl rfl rfl rfl rfl rfl ⟨rfl, rfl, rfl, rfl, rfl⟩ rfl rfl rfl rfl rfl (by kernel_rfl) Try.func5 (by kernel_rfl)
    (of_decide_eq_true (by kernel_rfl)) (by unfold Func.isWrapper; first | (rw [if_pos (by decide +kernel)]; kernel_rfl) | (rw [if_neg (by decide +kernel)]; exact ⟨rfl, rfl⟩))
    (fun os started H enc _ => readsPhantoms_lifted os started H enc)

#print axioms readsPhantoms_holds

end Go.Proofs.Ytfjjionebffekaa
