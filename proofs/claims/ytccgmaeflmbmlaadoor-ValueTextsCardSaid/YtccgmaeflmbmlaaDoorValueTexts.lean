/- For every input the law leveelaw01.ValueTexts returns true, and its input reads as it did. No condition. -/
import Derived.Test.YtccgmaeflmbmlaaDoorVX
import Derived.Test.YtccgmaeflmbmlaaDoorKX
import Derived.Test.YtccgmaeflmbmlaaDoorTie
import Derived.Test.YtccgmaeflmbmlaaDoorCards
set_option linter.unusedVariables false
set_option linter.constructorNameAsVariable false
namespace Go.Proofs.YtccgmaeflmbmlaaDoor
open Go Go.Pu

set_option maxRecDepth 100000 in
theorem valueTexts_pure (zs : List PV) (h : ArgsGd Tryd.prog [25, 25] zs) : ∃ n hc, call Tryd.prog X30 M0 L0 n 7 zs [] = some (.bool true, hc) := by
  match zs, h with
  | [x, y], ⟨h1, h2, _⟩ =>
    obtain ⟨u, rfl, hu⟩ := arg_val h1
    obtain ⟨v, rfl, hv⟩ := arg_val h2
    exact law_of_row (S := S_L01_ValueTexts) (m := m_L01_ValueTexts) (us := [.i u.k, .i u.n, .s (bs u.s), .i v.k, .i v.n, .s (bs v.s)]) (by kernel_rfl) (by kernel_rfl) rfl rfl (valueTexts_res u v hu hv)

set_option maxRecDepth 100000 in
theorem valueTexts_lifted (os : Os) (started : os.Started) (H : Type) (enc : TypeId × Value → H) :
    ReturnsInHanded {} Tryd.checked os 7 .any (fun w args => (Rows.valueTextsSpec.pre enc Tryd.prog Tryd.f7 [] false w args ∧ laidMetH Tryd.prog seatLaid w) ∧ sizedMet enc Tryd.prog Tryd.f7 (OpenSpec.ofChange Rows.valueTextsSpec) false w args)
      (Rows.valueTextsSpec.post enc Tryd.prog Tryd.f7 false true false false) :=
  law_laid (C := Tryd.checked) (laid := seatLaid) (m := 6) (rt := 4) own started (by kernel_rfl) Tryd.func7
    (ChangeSpec.witness_shaped (enc := enc) (C := Tryd.checked) (os := os) (X := fun w _ => laidMetH Tryd.prog seatLaid w) false (World.laidAll Tryd.prog os seatLaid) #[.agg #[.int .i64 0, .int .i64 0, .string ByteArray.empty], .agg #[.int .i64 0, .int .i64 0, .string ByteArray.empty]] 8 (World.laidAll_os _ _ _)
      (World.shaped_of_ZipB (by kernel_rfl) (by kernel_rfl)) (by kernel_rfl) (by kernel_rfl) (by kernel_rfl) (laidWorld os _))
    laidPlain tabs_of rfl (fun ds hl => by
      match ds, hl with
      | [d1, d2], _ => rfl) (by kernel_rfl) (by kernel_rfl) laidOut (by kernel_rfl) (by kernel_rfl) mixed named x30 (fun xs hx => valueTexts_pure xs hx)

theorem valueTexts_row : Rows.ValueTextsSaid :=
  OpenClaim.holds_of_wide 7 Tryd.f7 rfl rfl rfl rfl rfl rfl rfl ⟨rfl, rfl, rfl, rfl, rfl⟩ rfl rfl rfl rfl rfl (by kernel_rfl) Tryd.func7 (by kernel_rfl)
    (of_decide_eq_true (by kernel_rfl)) (by unfold Func.isWrapper; first | (rw [if_pos (by decide +kernel)]; kernel_rfl) | (rw [if_neg (by decide +kernel)]; exact ⟨rfl, rfl⟩))
    (fun os started H enc _ => valueTexts_lifted os started H enc)

theorem valueTexts_holds : Rows.ValueTextsCardSaid :=
  Claim7.holds_tied_plain_at .later [] [.data, .data, .data, .data, .pinned] true (true, "de28dc54ab1e7d491404f571952b04c1eea6d1870cfa25204f521d26c9e24a8d") false valueTexts_row (fun _ h => by cases h) (by kernel_rfl) (fun _ h => by cases h) valueTexts_row_tie rfl ⟨rfl, rfl⟩ (by kernel_rfl) rfl
    (fun f fn hf hfn => by
      obtain rfl : f = 7 := Option.some.inj ((show Tryd.prog.funcNamed Tryd.f7.name = some 7 by kernel_rfl).symm.trans hf) |>.symm
      obtain rfl : fn = Tryd.f7 := (Option.some.inj (Tryd.func7.symm.trans hfn)).symm
      refine ⟨by kernel_rfl, fun j t ht => ?_⟩
      have hall : (Tryd.f7.params.toList.all fun u => !Tryd.prog.wantsStandIn u) = true := by kernel_rfl
      have hm : t ∈ Tryd.f7.params.toList := by simpa using Array.mem_of_getElem? ht
      exact (show Tryd.prog.wantsStandIn t = false by simpa using List.all_eq_true.1 hall t hm))
    (by kernel_rfl)

#print axioms valueTexts_holds

end Go.Proofs.YtccgmaeflmbmlaaDoor
