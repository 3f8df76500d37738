/- For every input the law leveelaw20.ReadsMore returns true, and its input reads as it did. No condition. -/
import Derived.Test.YtfjjionebffekaaPX2
set_option linter.unusedVariables false
set_option linter.constructorNameAsVariable false
namespace Go.Proofs.Ytfjjionebffekaa
open Go Go.Pu

set_option maxRecDepth 100000 in
theorem readsMore_pure (zs : List PV) (h : ArgsGd Try.prog [22, 32, 3] zs) : ∃ n hc, call Try.prog X56 M0 L0 n 6 zs [] = some (.bool true, hc) := by
  match zs, h with
  | [x, y, z], ⟨h1, h2, h3, _⟩ =>
    obtain ⟨l, rfl, hl⟩ := arg_rels h1
    obtain ⟨a, rfl, ha⟩ := arg_ask h2
    obtain ⟨n, rfl, hn⟩ := arg_int h3
    exact law_of_row (S := S_L20_ReadsMore) (m := m_L20_ReadsMore) (us := .l (l.map Rel.e) :: a.us ++ [.i n]) (by kernel_rfl) (by kernel_rfl) rfl rfl (readsMore_res hl ha hn)

set_option maxRecDepth 100000 in
theorem readsMore_lifted (os : Os) (started : os.Started) (H : Type) (enc : TypeId × Value → H) :
    ReturnsInHanded {} Try.checked os 6 .any (Rows.readsMoreSpec.pre6 enc Try.prog Try.f6 Rows.readsMoreRow.domain false) (Rows.readsMoreSpec.post enc Try.prog Try.f6 false true false false) :=
  law_lifted (C := Try.checked) (m := 6) (rt := 4) own started (by kernel_rfl) Try.func6
    (ChangeSpec.witness6 (enc := enc) (C := Try.checked) false ⟨#[], #[.slice none 0 0, .agg #[.string ByteArray.empty, .int .i64 0, .int .i64 0, .string ByteArray.empty, .int .i64 0, .int .i64 0, .string ByteArray.empty, .slice none 0 0, .slice none 0 0, .slice none 0 0, .slice none 0 0], .int .i64 0], []⟩ 8 (by kernel_rfl) (by kernel_rfl) (by kernel_rfl) (by kernel_rfl))
    rfl (fun ds hl => by
      match ds, hl with
      | [d1, d2, d3], _ => rfl) (by kernel_rfl) (by kernel_rfl) laidOut (by kernel_rfl) (by kernel_rfl) mixed named x56 (fun xs hx => readsMore_pure xs hx)

theorem readsMore_holds : Rows.ReadsMoreSaid :=
  OpenClaim.holds_of_wide 6 Try.f6 rfl rfl rfl rfl rfl rfl rfl ⟨rfl, rfl, rfl, rfl, rfl⟩ rfl rfl rfl rfl rfl (by kernel_rfl) Try.func6 (by kernel_rfl)
    (of_decide_eq_true (by kernel_rfl)) (by unfold Func.isWrapper; first | (rw [if_pos (by decide +kernel)]; kernel_rfl) | (rw [if_neg (by decide +kernel)]; exact ⟨rfl, rfl⟩))
    (fun os started H enc _ => readsMore_lifted os started H enc)

#print axioms readsMore_holds

end Go.Proofs.Ytfjjionebffekaa
