/- For every input the law leveelaw11.GroupParts returns true, and its input reads as it did. No condition. -/
import Derived.Test.YtkaljlpbmbfpgaaGreatDoorVY
import Derived.Test.YtkaljlpbmbfpgaaGreatDoorKX
import Derived.Test.YtkaljlpbmbfpgaaGreatDoorTie
import Derived.Test.YtkaljlpbmbfpgaaGreatDoorCards
set_option linter.unusedVariables false
set_option linter.constructorNameAsVariable false
namespace Go.Proofs.YtkaljlpbmbfpgaaGreatDoor
open Go Go.Pu

set_option maxRecDepth 100000 in
theorem groupParts_pure (zs : List PV) (h : ArgsGd Tryz.prog [30, 30, 3] zs) : ∃ n hc, call Tryz.prog X206 M0 L0 n 7 zs [] = some (.bool true, hc) := by
 match zs, h with
 | [z0, z1, z2], ⟨h0, h1, h2, _⟩ =>
  obtain ⟨A, rfl, hA⟩ := arg_bagQ h0
  obtain ⟨B, rfl, hB⟩ := arg_bagQ h1
  obtain ⟨c, rfl, hc⟩ := arg_int h2
  exact law_of_row (S := S_zcc) (m := m_zcc) (us := [.l (A.map Cnt.e), .l (B.map Cnt.e), .i c]) (by kernel_rfl) (by kernel_rfl) rfl rfl (groupParts_res A B hA hB c)

set_option maxRecDepth 100000 in
theorem groupParts_lifted (os : Os) (started : os.Started) (H : Type) (enc : TypeId × Value → H) :
  ReturnsInHanded {} Tryz.checked os 7 .any (fun w args => (Rows.groupPartsSpec.pre enc Tryz.prog Tryz.f7 [] false w args ∧ laidMetH Tryz.prog seatLaid w) ∧ sizedMet enc Tryz.prog Tryz.f7 (OpenSpec.ofChange Rows.groupPartsSpec) false w args)
   (Rows.groupPartsSpec.post enc Tryz.prog Tryz.f7 false true false false) :=
 law_laid (C := Tryz.checked) (laid := seatLaid) (m := 6) (rt := 4) own started (by kernel_rfl) Tryz.func7
  (ChangeSpec.witness_shaped (enc := enc) (C := Tryz.checked) (os := os) (X := fun w _ => laidMetH Tryz.prog seatLaid w) false (World.laidAll Tryz.prog os seatLaid) #[.slice none 0 0, .slice none 0 0, .int .i64 0] 8 (World.laidAll_os _ _ _)
   (World.shaped_of_ZipB (by kernel_rfl) (by kernel_rfl)) (by kernel_rfl) (by kernel_rfl) (by kernel_rfl) (laidWorld os _))
  laidPlain tabs_of rfl (fun ds hl => by
   match ds, hl with
   | [d1, d2, d3], _ => rfl) (by kernel_rfl) (by kernel_rfl) laidOut (by kernel_rfl) (by kernel_rfl) mixed named x206 (fun xs hx => groupParts_pure xs hx)

theorem groupParts_row : Rows.GroupPartsSaid :=
 OpenClaim.holds_of_wide 7 Tryz.f7 rfl rfl rfl rfl rfl rfl rfl ⟨rfl, rfl, rfl, rfl, rfl⟩ rfl rfl rfl rfl rfl (by kernel_rfl) Tryz.func7 (by kernel_rfl)
  (of_decide_eq_true (by kernel_rfl)) (by unfold Func.isWrapper; first | (rw [if_pos (by decide +kernel)]; kernel_rfl) | (rw [if_neg (by decide +kernel)]; exact ⟨rfl, rfl⟩))
  (fun os started H enc _ => groupParts_lifted os started H enc)

theorem groupParts_holds : Rows.GroupPartsCardSaid :=
 Claim7.holds_tied_plain_at .later [] [.data, .data, .data, .data, .pinned] true (true, "42aa57ec9fd8dbe30d7f06299275172cc9671e43f9892e4eb64f8b0072ec2fd0") false groupParts_row (fun _ h => by cases h) (by kernel_rfl) (fun _ h => by cases h) groupParts_row_tie rfl ⟨rfl, rfl⟩ (by kernel_rfl) rfl
  (fun f fn hf hfn => by
   obtain rfl : f = 7 := Option.some.inj ((show Tryz.prog.funcNamed Tryz.f7.name = some 7 by kernel_rfl).symm.trans hf) |>.symm
   obtain rfl : fn = Tryz.f7 := (Option.some.inj (Tryz.func7.symm.trans hfn)).symm
   refine ⟨by kernel_rfl, fun j t ht => ?_⟩
   have hall : (Tryz.f7.params.toList.all fun u => !Tryz.prog.wantsStandIn u) = true := by kernel_rfl
   have hm : t ∈ Tryz.f7.params.toList := by simpa using Array.mem_of_getElem? ht
   exact (show Tryz.prog.wantsStandIn t = false by simpa using List.all_eq_true.1 hall t hm))
  (by kernel_rfl)

#print axioms groupParts_holds

end Go.Proofs.YtkaljlpbmbfpgaaGreatDoor
