/- For every input the law leveelaw05.BagTells returns true, and its input reads as it did. No condition. -/
import Derived.Test.YthmljoalohpafaaGreatDoorVX
import Derived.Test.YthmljoalohpafaaGreatDoorKX
import Derived.Test.YthmljoalohpafaaGreatDoorTie
import Derived.Test.YthmljoalohpafaaGreatDoorCards
set_option linter.unusedVariables false
set_option linter.constructorNameAsVariable false
namespace Go.Proofs.YthmljoalohpafaaGreatDoor
open Go Go.Pu

set_option maxRecDepth 100000 in
theorem bagTells_pure (zs : List PV) (h : ArgsGd Tryz.prog [39, 39, 25] zs) : ∃ n hc, call Tryz.prog X141 M0 L0 n 4 zs [] = some (.bool true, hc) := by
  match zs, h with
  | [x, y, z], ⟨h1, h2, h3, _⟩ =>
    obtain ⟨a, rfl, ha⟩ := arg_bag h1
    obtain ⟨b, rfl, hb⟩ := arg_bag h2
    obtain ⟨r, rfl, hr⟩ := arg_rowB h3
    exact law_of_row (S := S_L05_BagTells) (m := m_L05_BagTells) (us := [.l (a.map Cnt.e), .l (b.map Cnt.e), .l (re r)]) (by kernel_rfl) (by kernel_rfl) rfl rfl (bagTells_res a b ha hb r hr)

set_option maxRecDepth 100000 in
theorem bagTells_lifted (os : Os) (started : os.Started) (H : Type) (enc : TypeId × Value → H) :
    ReturnsInHanded {} Tryz.checked os 4 .any (fun w args => (Rows.bagTellsSpec.pre enc Tryz.prog Tryz.f4 [] false w args ∧ laidMetH Tryz.prog seatLaid w) ∧ sizedMet enc Tryz.prog Tryz.f4 (OpenSpec.ofChange Rows.bagTellsSpec) false w args)
      (Rows.bagTellsSpec.post enc Tryz.prog Tryz.f4 false true false false) :=
  law_laid (C := Tryz.checked) (laid := seatLaid) (m := 6) (rt := 4) own started (by kernel_rfl) Tryz.func4
    (ChangeSpec.witness_shaped (enc := enc) (C := Tryz.checked) (os := os) (X := fun w _ => laidMetH Tryz.prog seatLaid w) false (World.laidAll Tryz.prog os seatLaid) #[.slice none 0 0, .slice none 0 0, .slice none 0 0] 8 (World.laidAll_os _ _ _)
      (World.shaped_of_ZipB (by kernel_rfl) (by kernel_rfl)) (by kernel_rfl) (by kernel_rfl) (by kernel_rfl) (laidWorld os _))
    laidPlain tabs_of rfl (fun ds hl => by
      match ds, hl with
      | [d1, d2, d3], _ => rfl) (by kernel_rfl) (by kernel_rfl) laidOut (by kernel_rfl) (by kernel_rfl) mixed named x141 (fun xs hx => bagTells_pure xs hx)

theorem bagTells_row : Rows.BagTellsSaid :=
  OpenClaim.holds_of_wide 4 Tryz.f4 rfl rfl rfl rfl rfl rfl rfl ⟨rfl, rfl, rfl, rfl, rfl⟩ rfl rfl rfl rfl rfl (by kernel_rfl) Tryz.func4 (by kernel_rfl)
    (of_decide_eq_true (by kernel_rfl)) (by unfold Func.isWrapper; first | (rw [if_pos (by decide +kernel)]; kernel_rfl) | (rw [if_neg (by decide +kernel)]; exact ⟨rfl, rfl⟩))
    (fun os started H enc _ => bagTells_lifted os started H enc)

theorem bagTells_holds : Rows.BagTellsCardSaid :=
  Claim7.holds_tied_plain_at .later [] [.data, .data, .data, .data, .pinned] true (true, "36741f8c1055bbf3d0504358837bf3d0dae1f847a6d883d91d5d511bea1824e3") false bagTells_row (fun _ h => by cases h) (by kernel_rfl) (fun _ h => by cases h) bagTells_row_tie rfl ⟨rfl, rfl⟩ (by kernel_rfl) rfl
    (fun f fn hf hfn => by
      obtain rfl : f = 4 := Option.some.inj ((show Tryz.prog.funcNamed Tryz.f4.name = some 4 by kernel_rfl).symm.trans hf) |>.symm
      obtain rfl : fn = Tryz.f4 := (Option.some.inj (Tryz.func4.symm.trans hfn)).symm
      refine ⟨by kernel_rfl, fun j t ht => ?_⟩
      have hall : (Tryz.f4.params.toList.all fun u => !Tryz.prog.wantsStandIn u) = true := by kernel_rfl
      have hm : t ∈ Tryz.f4.params.toList := by simpa using Array.mem_of_getElem? ht
      exact (show Tryz.prog.wantsStandIn t = false by simpa using List.all_eq_true.1 hall t hm))
    (by kernel_rfl)

#print axioms bagTells_holds

end Go.Proofs.YthmljoalohpafaaGreatDoor
