/- For every input the law leveelaw01.ValueSums returns true, and its input reads as it did. No condition. -/
import Derived.Test.YtccgmaeflmbmlaaDoorVX
import Derived.Test.YtccgmaeflmbmlaaDoorKX
import Derived.Test.YtccgmaeflmbmlaaDoorTie
import Derived.Test.YtccgmaeflmbmlaaDoorCards
set_option linter.unusedVariables false
set_option linter.constructorNameAsVariable false
namespace Go.Proofs.YtccgmaeflmbmlaaDoor
open Go Go.Pu

set_option maxRecDepth 100000 in
theorem valueSums_pure (zs : List PV) (h : ArgsGd Tryd.prog [3, 3] zs) : ∃ n hc, call Tryd.prog X32 M0 L0 n 8 zs [] = some (.bool true, hc) := by
  match zs, h with
  | [xa, xb], ⟨ga, gb, _⟩ =>
    obtain ⟨a, rfl, ha⟩ := arg_int ga
    obtain ⟨b, rfl, hb⟩ := arg_int gb
    exact law_of_row (S := S_L01_ValueSums) (m := m_L01_ValueSums) (us := [.i a, .i b]) (by kernel_rfl) (by kernel_rfl) rfl rfl (valueSums_res a b ha hb)

set_option maxRecDepth 100000 in
theorem valueSums_lifted (os : Os) (started : os.Started) (H : Type) (enc : TypeId × Value → H) :
    ReturnsInHanded {} Tryd.checked os 8 .any (fun w args => (Rows.valueSumsSpec.pre enc Tryd.prog Tryd.f8 [] false w args ∧ laidMetH Tryd.prog seatLaid w) ∧ sizedMet enc Tryd.prog Tryd.f8 (OpenSpec.ofChange Rows.valueSumsSpec) false w args)
      (Rows.valueSumsSpec.post enc Tryd.prog Tryd.f8 false true false false) :=
  law_laid (C := Tryd.checked) (laid := seatLaid) (m := 6) (rt := 4) own started (by kernel_rfl) Tryd.func8
    (ChangeSpec.witness_shaped (enc := enc) (C := Tryd.checked) (os := os) (X := fun w _ => laidMetH Tryd.prog seatLaid w) false (World.laidAll Tryd.prog os seatLaid) #[.int .i64 0, .int .i64 0] 8 (World.laidAll_os _ _ _)
      (World.shaped_of_ZipB (by kernel_rfl) (by kernel_rfl)) (by kernel_rfl) (by kernel_rfl) (by kernel_rfl) (laidWorld os _))
    laidPlain tabs_of rfl (fun ds hl => by
      match ds, hl with
      | [d1, d2], _ => rfl) (by kernel_rfl) (by kernel_rfl) laidOut (by kernel_rfl) (by kernel_rfl) mixed named x32 (fun xs hx => valueSums_pure xs hx)

theorem valueSums_row : Rows.ValueSumsSaid :=
  OpenClaim.holds_of_wide 8 Tryd.f8 rfl rfl rfl rfl rfl rfl rfl ⟨rfl, rfl, rfl, rfl, rfl⟩ rfl rfl rfl rfl rfl (by kernel_rfl) Tryd.func8 (by kernel_rfl)
    (of_decide_eq_true (by kernel_rfl)) (by unfold Func.isWrapper; first | (rw [if_pos (by decide +kernel)]; kernel_rfl) | (rw [if_neg (by decide +kernel)]; exact ⟨rfl, rfl⟩))
    (fun os started H enc _ => valueSums_lifted os started H enc)

theorem valueSums_holds : Rows.ValueSumsCardSaid :=
  Claim7.holds_tied_plain_at .later [] [.data, .data, .data, .data, .pinned] true (true, "de28dc54ab1e7d491404f571952b04c1eea6d1870cfa25204f521d26c9e24a8d") false valueSums_row (fun _ h => by cases h) (by kernel_rfl) (fun _ h => by cases h) valueSums_row_tie rfl ⟨rfl, rfl⟩ (by kernel_rfl) rfl
    (fun f fn hf hfn => by
      obtain rfl : f = 8 := Option.some.inj ((show Tryd.prog.funcNamed Tryd.f8.name = some 8 by kernel_rfl).symm.trans hf) |>.symm
      obtain rfl : fn = Tryd.f8 := (Option.some.inj (Tryd.func8.symm.trans hfn)).symm
      refine ⟨by kernel_rfl, fun j t ht => ?_⟩
      have hall : (Tryd.f8.params.toList.all fun u => !Tryd.prog.wantsStandIn u) = true := by kernel_rfl
      have hm : t ∈ Tryd.f8.params.toList := by simpa using Array.mem_of_getElem? ht
      exact (show Tryd.prog.wantsStandIn t = false by simpa using List.all_eq_true.1 hall t hm))
    (by kernel_rfl)

#print axioms valueSums_holds

end Go.Proofs.YtccgmaeflmbmlaaDoor
