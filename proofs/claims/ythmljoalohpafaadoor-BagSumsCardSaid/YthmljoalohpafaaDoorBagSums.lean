/- For every input the law leveelaw05.BagSums returns true, and its input reads as it did. No condition. -/
import Derived.Test.YthmljoalohpafaaDoorVX
import Derived.Test.YthmljoalohpafaaDoorKX
import Derived.Test.YthmljoalohpafaaDoorTie
import Derived.Test.YthmljoalohpafaaDoorCards
set_option linter.unusedVariables false
set_option linter.constructorNameAsVariable false
namespace Go.Proofs.YthmljoalohpafaaDoor
open Go Go.Pu

set_option maxRecDepth 100000 in
theorem bagSums_pure (zs : List PV) (h : ArgsGd Tryd.prog [52, 52, 52] zs) : ∃ n hc, call Tryd.prog X134 M0 L0 n 8 zs [] = some (.bool true, hc) := by
  match zs, h with
  | [x, y, z], ⟨h1, h2, h3, _⟩ =>
    obtain ⟨a, rfl, ha⟩ := arg_bag h1
    obtain ⟨b, rfl, hb⟩ := arg_bag h2
    obtain ⟨c, rfl, hc⟩ := arg_bag h3
    exact law_of_row (S := S_L05_BagSums) (m := m_L05_BagSums) (us := [.l (a.map Cnt.e), .l (b.map Cnt.e), .l (c.map Cnt.e)]) (by kernel_rfl) (by kernel_rfl) rfl rfl (bagSums_res a b c ha hb hc)

set_option maxRecDepth 100000 in
theorem bagSums_lifted (os : Os) (started : os.Started) (H : Type) (enc : TypeId × Value → H) :
    ReturnsInHanded {} Tryd.checked os 8 .any (fun w args => (Rows.bagSumsSpec.pre enc Tryd.prog Tryd.f8 [] false w args ∧ laidMetH Tryd.prog seatLaid w) ∧ sizedMet enc Tryd.prog Tryd.f8 (OpenSpec.ofChange Rows.bagSumsSpec) false w args)
      (Rows.bagSumsSpec.post enc Tryd.prog Tryd.f8 false true false false) :=
  law_laid (C := Tryd.checked) (laid := seatLaid) (m := 6) (rt := 4) own started (by kernel_rfl) Tryd.func8
    (ChangeSpec.witness_shaped (enc := enc) (C := Tryd.checked) (os := os) (X := fun w _ => laidMetH Tryd.prog seatLaid w) false (World.laidAll Tryd.prog os seatLaid) #[.slice none 0 0, .slice none 0 0, .slice none 0 0] 8 (World.laidAll_os _ _ _)
      (World.shaped_of_ZipB (by kernel_rfl) (by kernel_rfl)) (by kernel_rfl) (by kernel_rfl) (by kernel_rfl) (laidWorld os _))
    laidPlain tabs_of rfl (fun ds hl => by
      match ds, hl with
      | [d1, d2, d3], _ => rfl) (by kernel_rfl) (by kernel_rfl) laidOut (by kernel_rfl) (by kernel_rfl) mixed named x134 (fun xs hx => bagSums_pure xs hx)

theorem bagSums_row : Rows.BagSumsSaid :=
  OpenClaim.holds_of_wide 8 Tryd.f8 rfl rfl rfl rfl rfl rfl rfl ⟨rfl, rfl, rfl, rfl, rfl⟩ rfl rfl rfl rfl rfl (by kernel_rfl) Tryd.func8 (by kernel_rfl)
    (of_decide_eq_true (by kernel_rfl)) (by unfold Func.isWrapper; first | (rw [if_pos (by decide +kernel)]; kernel_rfl) | (rw [if_neg (by decide +kernel)]; exact ⟨rfl, rfl⟩))
    (fun os started H enc _ => bagSums_lifted os started H enc)

theorem bagSums_holds : Rows.BagSumsCardSaid :=
  Claim7.holds_tied_plain_at .later [] [.data, .data, .data, .data, .pinned] true (true, "70c3880c27d94f5034d0dd18a2faee81cda9d37fe1209b8c5d581e0610d03ca7") false bagSums_row (fun _ h => by cases h) (by kernel_rfl) (fun _ h => by cases h) bagSums_row_tie rfl ⟨rfl, rfl⟩ (by kernel_rfl) rfl
    (fun f fn hf hfn => by
      obtain rfl : f = 8 := Option.some.inj ((show Tryd.prog.funcNamed Tryd.f8.name = some 8 by kernel_rfl).symm.trans hf) |>.symm
      obtain rfl : fn = Tryd.f8 := (Option.some.inj (Tryd.func8.symm.trans hfn)).symm
      refine ⟨by kernel_rfl, fun j t ht => ?_⟩
      have hall : (Tryd.f8.params.toList.all fun u => !Tryd.prog.wantsStandIn u) = true := by kernel_rfl
      have hm : t ∈ Tryd.f8.params.toList := by simpa using Array.mem_of_getElem? ht
      exact (show Tryd.prog.wantsStandIn t = false by simpa using List.all_eq_true.1 hall t hm))
    (by kernel_rfl)

#print axioms bagSums_holds

end Go.Proofs.YthmljoalohpafaaDoor
