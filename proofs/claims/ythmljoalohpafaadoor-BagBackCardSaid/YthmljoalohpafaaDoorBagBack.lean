/- For every input the law leveelaw05.BagBack returns true, and its input reads as it did. No condition. -/
import Derived.Test.YthmljoalohpafaaDoorVX
import Derived.Test.YthmljoalohpafaaDoorKX
import Derived.Test.YthmljoalohpafaaDoorTie
import Derived.Test.YthmljoalohpafaaDoorCards
set_option linter.unusedVariables false
set_option linter.constructorNameAsVariable false
namespace Go.Proofs.YthmljoalohpafaaDoor
open Go Go.Pu

set_option maxRecDepth 100000 in
theorem bagBack_pure (zs : List PV) (h : ArgsGd Tryd.prog [48, 48] zs) : ∃ n hc, call Tryd.prog X137 M0 L0 n 9 zs [] = some (.bool true, hc) := by
  match zs, h with
  | [x, y], ⟨h1, h2, _⟩ =>
    obtain ⟨l, rfl, hl, hr⟩ := arg_rows h1
    obtain ⟨m, rfl, hm, hq⟩ := arg_rows h2
    exact law_of_row (S := S_L05_BagBack) (m := m_L05_BagBack) (us := [.l (l.map reR), .l (m.map reR)]) (by kernel_rfl) (by kernel_rfl) rfl rfl (bagBack_res l m hl hm hr hq)

set_option maxRecDepth 100000 in
theorem bagBack_lifted (os : Os) (started : os.Started) (H : Type) (enc : TypeId × Value → H) :
    ReturnsInHanded {} Tryd.checked os 9 .any (fun w args => (Rows.bagBackSpec.pre enc Tryd.prog Tryd.f9 [] false w args ∧ laidMetH Tryd.prog seatLaid w) ∧ sizedMet enc Tryd.prog Tryd.f9 (OpenSpec.ofChange Rows.bagBackSpec) false w args)
      (Rows.bagBackSpec.post enc Tryd.prog Tryd.f9 false true false false) :=
  law_laid (C := Tryd.checked) (laid := seatLaid) (m := 6) (rt := 4) own started (by kernel_rfl) Tryd.func9
    (ChangeSpec.witness_shaped (enc := enc) (C := Tryd.checked) (os := os) (X := fun w _ => laidMetH Tryd.prog seatLaid w) false (World.laidAll Tryd.prog os seatLaid) #[.slice none 0 0, .slice none 0 0] 8 (World.laidAll_os _ _ _)
      (World.shaped_of_ZipB (by kernel_rfl) (by kernel_rfl)) (by kernel_rfl) (by kernel_rfl) (by kernel_rfl) (laidWorld os _))
    laidPlain tabs_of rfl (fun ds hl => by
      match ds, hl with
      | [d1, d2], _ => rfl) (by kernel_rfl) (by kernel_rfl) laidOut (by kernel_rfl) (by kernel_rfl) mixed named x137 (fun xs hx => bagBack_pure xs hx)

theorem bagBack_row : Rows.BagBackSaid :=
  OpenClaim.holds_of_wide 9 Tryd.f9 rfl rfl rfl rfl rfl rfl rfl ⟨rfl, rfl, rfl, rfl, rfl⟩ rfl rfl rfl rfl rfl (by kernel_rfl) Tryd.func9 (by kernel_rfl)
    (of_decide_eq_true (by kernel_rfl)) (by unfold Func.isWrapper; first | (rw [if_pos (by decide +kernel)]; kernel_rfl) | (rw [if_neg (by decide +kernel)]; exact ⟨rfl, rfl⟩))
    (fun os started H enc _ => bagBack_lifted os started H enc)

theorem bagBack_holds : Rows.BagBackCardSaid :=
  Claim7.holds_tied_plain_at .later [] [.data, .data, .data, .data, .pinned] true (true, "70c3880c27d94f5034d0dd18a2faee81cda9d37fe1209b8c5d581e0610d03ca7") false bagBack_row (fun _ h => by cases h) (by kernel_rfl) (fun _ h => by cases h) bagBack_row_tie rfl ⟨rfl, rfl⟩ (by kernel_rfl) rfl
    (fun f fn hf hfn => by
      obtain rfl : f = 9 := Option.some.inj ((show Tryd.prog.funcNamed Tryd.f9.name = some 9 by kernel_rfl).symm.trans hf) |>.symm
      obtain rfl : fn = Tryd.f9 := (Option.some.inj (Tryd.func9.symm.trans hfn)).symm
      refine ⟨by kernel_rfl, fun j t ht => ?_⟩
      have hall : (Tryd.f9.params.toList.all fun u => !Tryd.prog.wantsStandIn u) = true := by kernel_rfl
      have hm : t ∈ Tryd.f9.params.toList := by simpa using Array.mem_of_getElem? ht
      exact (show Tryd.prog.wantsStandIn t = false by simpa using List.all_eq_true.1 hall t hm))
    (by kernel_rfl)

#print axioms bagBack_holds

end Go.Proofs.YthmljoalohpafaaDoor
