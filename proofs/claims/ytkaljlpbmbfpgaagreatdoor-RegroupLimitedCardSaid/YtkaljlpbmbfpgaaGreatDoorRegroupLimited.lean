/- For every input the law leveelaw14.RegroupLimited returns true, and its input reads as it did. No condition. -/
import Derived.Test.YtkaljlpbmbfpgaaGreatDoorVY
import Derived.Test.YtkaljlpbmbfpgaaGreatDoorKX
import Derived.Test.YtkaljlpbmbfpgaaGreatDoorTie
import Derived.Test.YtkaljlpbmbfpgaaGreatDoorCards
set_option linter.unusedVariables false
set_option linter.constructorNameAsVariable false
namespace Go.Proofs.YtkaljlpbmbfpgaaGreatDoor
open Go Go.Pu

set_option maxRecDepth 100000 in
theorem regroupLimited_pure (zs : List PV) (h : ArgsGd Tryz.prog [28, 30, 30] zs) : ∃ n hc, call Tryz.prog X211 M0 L0 n 10 zs [] = some (.bool true, hc) := by
 match zs, h with
 | [z0, z1, z2], ⟨h0, h1, h2, _⟩ =>
  obtain ⟨n0, n1, w, i, j, l5, pk, g, ag, rfl, hpk, hag⟩ := arg_gview h0
  obtain ⟨A, rfl, hA⟩ := arg_bagQ h1
  obtain ⟨D, rfl, hD⟩ := arg_bagQ h2
  exact law_of_row (S := S_zch) (m := m_zch) (us := [.s (bs n0), .s (bs n1), .s (bs w), .i i, .i j, .l l5, .l (pk.map kE), .b g, .l (ag.map Ag.e), .l (A.map Cnt.e), .l (D.map Cnt.e)]) (by kernel_rfl) (by kernel_rfl) rfl rfl (regroupLimited_res n0 n1 w i j l5 pk hpk g ag hag A D hA hD)

set_option maxRecDepth 100000 in
theorem regroupLimited_lifted (os : Os) (started : os.Started) (H : Type) (enc : TypeId × Value → H) :
  ReturnsInHanded {} Tryz.checked os 10 .any (fun w args => (Rows.regroupLimitedSpec.pre enc Tryz.prog Tryz.f10 [] false w args ∧ laidMetH Tryz.prog seatLaid w) ∧ sizedMet enc Tryz.prog Tryz.f10 (OpenSpec.ofChange Rows.regroupLimitedSpec) false w args)
   (Rows.regroupLimitedSpec.post enc Tryz.prog Tryz.f10 false true false false) :=
 law_laid (C := Tryz.checked) (laid := seatLaid) (m := 6) (rt := 4) own started (by kernel_rfl) Tryz.func10
  (ChangeSpec.witness_shaped (enc := enc) (C := Tryz.checked) (os := os) (X := fun w _ => laidMetH Tryz.prog seatLaid w) false (World.laidAll Tryz.prog os seatLaid) #[.agg #[.string ByteArray.empty, .string ByteArray.empty, .string ByteArray.empty, .int .i64 0, .int .i64 0, .slice none 0 0, .slice none 0 0, .bool false, .slice none 0 0], .slice none 0 0, .slice none 0 0] 8 (World.laidAll_os _ _ _)
   (World.shaped_of_ZipB (by kernel_rfl) (by kernel_rfl)) (by kernel_rfl) (by kernel_rfl) (by kernel_rfl) (laidWorld os _))
  laidPlain tabs_of rfl (fun ds hl => by
   match ds, hl with
   | [d1, d2, d3], _ => rfl) (by kernel_rfl) (by kernel_rfl) laidOut (by kernel_rfl) (by kernel_rfl) mixed named x211 (fun xs hx => regroupLimited_pure xs hx)

theorem regroupLimited_row : Rows.RegroupLimitedSaid :=
 OpenClaim.holds_of_wide 10 Tryz.f10 rfl rfl rfl rfl rfl rfl rfl ⟨rfl, rfl, rfl, rfl, rfl⟩ rfl rfl rfl rfl rfl (by kernel_rfl) Tryz.func10 (by kernel_rfl)
  (of_decide_eq_true (by kernel_rfl)) (by unfold Func.isWrapper; first | (rw [if_pos (by decide +kernel)]; kernel_rfl) | (rw [if_neg (by decide +kernel)]; exact ⟨rfl, rfl⟩))
  (fun os started H enc _ => regroupLimited_lifted os started H enc)

theorem regroupLimited_holds : Rows.RegroupLimitedCardSaid :=
 Claim7.holds_tied_plain_at .later [] [.data, .data, .data, .data, .pinned] true (true, "42aa57ec9fd8dbe30d7f06299275172cc9671e43f9892e4eb64f8b0072ec2fd0") false regroupLimited_row (fun _ h => by cases h) (by kernel_rfl) (fun _ h => by cases h) regroupLimited_row_tie rfl ⟨rfl, rfl⟩ (by kernel_rfl) rfl
  (fun f fn hf hfn => by
   obtain rfl : f = 10 := Option.some.inj ((show Tryz.prog.funcNamed Tryz.f10.name = some 10 by kernel_rfl).symm.trans hf) |>.symm
   obtain rfl : fn = Tryz.f10 := (Option.some.inj (Tryz.func10.symm.trans hfn)).symm
   refine ⟨by kernel_rfl, fun j t ht => ?_⟩
   have hall : (Tryz.f10.params.toList.all fun u => !Tryz.prog.wantsStandIn u) = true := by kernel_rfl
   have hm : t ∈ Tryz.f10.params.toList := by simpa using Array.mem_of_getElem? ht
   exact (show Tryz.prog.wantsStandIn t = false by simpa using List.all_eq_true.1 hall t hm))
  (by kernel_rfl)

#print axioms regroupLimited_holds

end Go.Proofs.YtkaljlpbmbfpgaaGreatDoor
