/- For every input the law leveelaw01.ValueLogic returns true, and its input reads as it did. No condition. -/
import Derived.Test.YtccgmaeflmbmlaaDoorVX
import Derived.Test.YtccgmaeflmbmlaaDoorKX
import Derived.Test.YtccgmaeflmbmlaaDoorTie
import Derived.Test.YtccgmaeflmbmlaaDoorCards
set_option linter.unusedVariables false
set_option linter.constructorNameAsVariable false
namespace Go.Proofs.YtccgmaeflmbmlaaDoor
open Go Go.Pu

set_option maxRecDepth 100000 in
theorem valueLogic_pure (zs : List PV) (h : ArgsGd Tryd.prog [22, 4] zs) : ∃ n hc, call Tryd.prog X25 M0 L0 n 3 zs [] = some (.bool true, hc) := by
  match zs, h with
  | [x, y], ⟨h1, h2, _⟩ =>
    obtain ⟨l, rfl, hl⟩ := arg_vals h1
    obtain ⟨b, rfl⟩ := arg_bool h2
    exact law_of_row (S := S_L01_ValueLogic) (m := m_L01_ValueLogic) (us := [.l (re l), .b b]) (by kernel_rfl) (by kernel_rfl) rfl rfl (valueLogic_res l hl.1 b)

set_option maxRecDepth 100000 in
theorem valueLogic_lifted (os : Os) (started : os.Started) (H : Type) (enc : TypeId × Value → H) :
    ReturnsInHanded {} Tryd.checked os 3 .any (fun w args => (Rows.valueLogicSpec.pre enc Tryd.prog Tryd.f3 [] false w args ∧ laidMetH Tryd.prog seatLaid w) ∧ sizedMet enc Tryd.prog Tryd.f3 (OpenSpec.ofChange Rows.valueLogicSpec) false w args)
      (Rows.valueLogicSpec.post enc Tryd.prog Tryd.f3 false true false false) :=
  law_laid (C := Tryd.checked) (laid := seatLaid) (m := 6) (rt := 4) own started (by kernel_rfl) Tryd.func3
    (ChangeSpec.witness_shaped (enc := enc) (C := Tryd.checked) (os := os) (X := fun w _ => laidMetH Tryd.prog seatLaid w) false (World.laidAll Tryd.prog os seatLaid) #[.slice none 0 0, .bool false] 8 (World.laidAll_os _ _ _)
      (World.shaped_of_ZipB (by kernel_rfl) (by kernel_rfl)) (by kernel_rfl) (by kernel_rfl) (by kernel_rfl) (laidWorld os _))
    laidPlain tabs_of rfl (fun ds hl => by
      match ds, hl with
      | [d1, d2], _ => rfl) (by kernel_rfl) (by kernel_rfl) laidOut (by kernel_rfl) (by kernel_rfl) mixed named x25 (fun xs hx => valueLogic_pure xs hx)

theorem valueLogic_row : Rows.ValueLogicSaid :=
  OpenClaim.holds_of_wide 3 Tryd.f3 rfl rfl rfl rfl rfl rfl rfl ⟨rfl, rfl, rfl, rfl, rfl⟩ rfl rfl rfl rfl rfl (by kernel_rfl) Tryd.func3 (by kernel_rfl)
    (of_decide_eq_true (by kernel_rfl)) (by unfold Func.isWrapper; first | (rw [if_pos (by decide +kernel)]; kernel_rfl) | (rw [if_neg (by decide +kernel)]; exact ⟨rfl, rfl⟩))
    (fun os started H enc _ => valueLogic_lifted os started H enc)

theorem valueLogic_holds : Rows.ValueLogicCardSaid :=
  Claim7.holds_tied_plain_at .later [] [.data, .data, .data, .data, .pinned] true (true, "de28dc54ab1e7d491404f571952b04c1eea6d1870cfa25204f521d26c9e24a8d") false valueLogic_row (fun _ h => by cases h) (by kernel_rfl) (fun _ h => by cases h) valueLogic_row_tie rfl ⟨rfl, rfl⟩ (by kernel_rfl) rfl
    (fun f fn hf hfn => by
      obtain rfl : f = 3 := Option.some.inj ((show Tryd.prog.funcNamed Tryd.f3.name = some 3 by kernel_rfl).symm.trans hf) |>.symm
      obtain rfl : fn = Tryd.f3 := (Option.some.inj (Tryd.func3.symm.trans hfn)).symm
      refine ⟨by kernel_rfl, fun j t ht => ?_⟩
      have hall : (Tryd.f3.params.toList.all fun u => !Tryd.prog.wantsStandIn u) = true := by kernel_rfl
      have hm : t ∈ Tryd.f3.params.toList := by simpa using Array.mem_of_getElem? ht
      exact (show Tryd.prog.wantsStandIn t = false by simpa using List.all_eq_true.1 hall t hm))
    (by kernel_rfl)

#print axioms valueLogic_holds

end Go.Proofs.YtccgmaeflmbmlaaDoor
