/- For every input the law leveelaw11.GroupOne returns true, and its input reads as it did. No condition. -/
import Derived.Test.YtkaljlpbmbfpgaaGreatDoorVY
import Derived.Test.YtkaljlpbmbfpgaaGreatDoorKX
import Derived.Test.YtkaljlpbmbfpgaaGreatDoorTie
import Derived.Test.YtkaljlpbmbfpgaaGreatDoorCards
set_option linter.unusedVariables false
set_option linter.constructorNameAsVariable false
namespace Go.Proofs.YtkaljlpbmbfpgaaGreatDoor
open Go Go.Pu

set_option maxRecDepth 100000 in
theorem groupOne_pure (zs : List PV) (h : ArgsGd Tryz.prog [30, 32, 32] zs) : ∃ n hc, call Tryz.prog X205 M0 L0 n 6 zs [] = some (.bool true, hc) := by
 match zs, h with
 | [z0, z1, z2], ⟨h0, h1, h2, _⟩ =>
  obtain ⟨B, rfl, hB⟩ := arg_bagQ h0
  obtain ⟨f, c, rfl⟩ := arg_agg h1
  obtain ⟨f1, c1, rfl⟩ := arg_agg h2
  exact law_of_row (S := S_zcb) (m := m_zcb) (us := [.l (B.map Cnt.e), .i f, .i c, .i f1, .i c1]) (by kernel_rfl) (by kernel_rfl) rfl rfl (groupOne_res B hB f c f1 c1)

set_option maxRecDepth 100000 in
theorem groupOne_lifted (os : Os) (started : os.Started) (H : Type) (enc : TypeId × Value → H) :
  ReturnsInHanded {} Tryz.checked os 6 .any (fun w args => (Rows.groupOneSpec.pre enc Tryz.prog Tryz.f6 [] false w args ∧ laidMetH Tryz.prog seatLaid w) ∧ sizedMet enc Tryz.prog Tryz.f6 (OpenSpec.ofChange Rows.groupOneSpec) false w args)
   (Rows.groupOneSpec.post enc Tryz.prog Tryz.f6 false true false false) :=
 law_laid (C := Tryz.checked) (laid := seatLaid) (m := 6) (rt := 4) own started (by kernel_rfl) Tryz.func6
  (ChangeSpec.witness_shaped (enc := enc) (C := Tryz.checked) (os := os) (X := fun w _ => laidMetH Tryz.prog seatLaid w) false (World.laidAll Tryz.prog os seatLaid) #[.slice none 0 0, .agg #[.int .i64 0, .int .i64 0], .agg #[.int .i64 0, .int .i64 0]] 8 (World.laidAll_os _ _ _)
   (World.shaped_of_ZipB (by kernel_rfl) (by kernel_rfl)) (by kernel_rfl) (by kernel_rfl) (by kernel_rfl) (laidWorld os _))
  laidPlain tabs_of rfl (fun ds hl => by
   match ds, hl with
   | [d1, d2, d3], _ => rfl) (by kernel_rfl) (by kernel_rfl) laidOut (by kernel_rfl) (by kernel_rfl) mixed named x205 (fun xs hx => groupOne_pure xs hx)

theorem groupOne_row : Rows.GroupOneSaid :=
 OpenClaim.holds_of_wide 6 Tryz.f6 rfl rfl rfl rfl rfl rfl rfl ⟨rfl, rfl, rfl, rfl, rfl⟩ rfl rfl rfl rfl rfl (by kernel_rfl) Tryz.func6 (by kernel_rfl)
  (of_decide_eq_true (by kernel_rfl)) (by unfold Func.isWrapper; first | (rw [if_pos (by decide +kernel)]; kernel_rfl) | (rw [if_neg (by decide +kernel)]; exact ⟨rfl, rfl⟩))
  (fun os started H enc _ => groupOne_lifted os started H enc)

theorem groupOne_holds : Rows.GroupOneCardSaid :=
 Claim7.holds_tied_plain_at .later [] [.data, .data, .data, .data, .pinned] true (true, "42aa57ec9fd8dbe30d7f06299275172cc9671e43f9892e4eb64f8b0072ec2fd0") false groupOne_row (fun _ h => by cases h) (by kernel_rfl) (fun _ h => by cases h) groupOne_row_tie rfl ⟨rfl, rfl⟩ (by kernel_rfl) rfl
  (fun f fn hf hfn => by
   obtain rfl : f = 6 := Option.some.inj ((show Tryz.prog.funcNamed Tryz.f6.name = some 6 by kernel_rfl).symm.trans hf) |>.symm
   obtain rfl : fn = Tryz.f6 := (Option.some.inj (Tryz.func6.symm.trans hfn)).symm
   refine ⟨by kernel_rfl, fun j t ht => ?_⟩
   have hall : (Tryz.f6.params.toList.all fun u => !Tryz.prog.wantsStandIn u) = true := by kernel_rfl
   have hm : t ∈ Tryz.f6.params.toList := by simpa using Array.mem_of_getElem? ht
   exact (show Tryz.prog.wantsStandIn t = false by simpa using List.all_eq_true.1 hall t hm))
  (by kernel_rfl)

#print axioms groupOne_holds

end Go.Proofs.YtkaljlpbmbfpgaaGreatDoor
