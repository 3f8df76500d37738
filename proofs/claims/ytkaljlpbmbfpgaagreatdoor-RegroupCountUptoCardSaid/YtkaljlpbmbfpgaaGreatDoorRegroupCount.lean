/- Where what it reads is of bulk at most 1048576, the law leveelaw14.RegroupCount returns true, and its input reads as it did. -/
import Derived.Test.YtkaljlpbmbfpgaaGreatDoorVY
import Derived.Test.YtkaljlpbmbfpgaaGreatDoorKX
import Derived.Test.YtkaljlpbmbfpgaaGreatDoorTie
import Derived.Test.YtkaljlpbmbfpgaaGreatDoorCards
set_option linter.unusedVariables false
set_option linter.constructorNameAsVariable false
namespace Go.Proofs.YtkaljlpbmbfpgaaGreatDoor
open Go Go.Pu

set_option maxRecDepth 100000 in
theorem regroupCount_pure (zs : List PV) (h : ArgsGd Tryz.prog [30, 30] zs) (hs : ∀ z ∈ zs, shortA 1048576 z) : ∃ n hc, call Tryz.prog X212 M0 L0 n 12 zs [] = some (.bool true, hc) := by
 match zs, h with
 | [z0, z1], ⟨h0, h1, _⟩ =>
  obtain ⟨A, rfl, hA⟩ := arg_bagQ h0
  obtain ⟨D, rfl, hD⟩ := arg_bagQ h1
  have lA : (A.map Cnt.e).length ≤ 1048576 := hs _ (List.mem_cons_self ..)
  have lD : (D.map Cnt.e).length ≤ 1048576 := hs _ (List.mem_cons_of_mem _ (List.mem_cons_self ..))
  rw [List.length_map] at lA lD
  exact law_of_row (S := S_zci) (m := m_zci) (us := [.l (A.map Cnt.e), .l (D.map Cnt.e)]) (by kernel_rfl) (by kernel_rfl) rfl rfl (regroupCount_res A D hA hD lA lD)

set_option maxRecDepth 100000 in
theorem regroupCount_lifted (os : Os) (started : os.Started) (H : Type) (enc : TypeId × Value → H) (F : Stop.Interp) :
  ReturnsInHanded {} Tryz.checked os 12 .any (fun w args => ((Rows.OpenSpec.upto Rows.regroupCountSpec).pre enc Tryz.prog Tryz.f12 [] false w args ∧ laidMetH Tryz.prog seatLaid w) ∧ sizedMet enc Tryz.prog Tryz.f12 (Rows.OpenSpec.upto Rows.regroupCountSpec) false w args)
   (((Rows.OpenSpec.upto Rows.regroupCountSpec).at F).post enc Tryz.prog Tryz.f12 false true false false) :=
 law_upto_laid (C := Tryz.checked) (laid := seatLaid) (s := Rows.OpenSpec.upto Rows.regroupCountSpec) (k := Rows.uptoSmall) rfl (B := 1048576) (m := 6) (rt := 4) own started (by kernel_rfl) Tryz.func12
  (witness_upto (enc := enc) (C := Tryz.checked) (os := os) (s := Rows.OpenSpec.upto Rows.regroupCountSpec) (k := Rows.uptoSmall) rfl (World.laidAll Tryz.prog os seatLaid) #[.slice none 0 0, .slice none 0 0] 8 (World.laidAll_os _ _ _)
   (World.shaped_of_ZipB (by kernel_rfl) (by kernel_rfl)) (by kernel_rfl) (by kernel_rfl) (by kernel_rfl) (laidWorld os _))
  laidPlain tabs_of rfl (fun ds hl => by
   match ds, hl with
   | [d1, d2], _ => rfl) small_wid (by kernel_rfl) (by kernel_rfl) laidOut (by kernel_rfl) (by kernel_rfl) mixed named x212 (fun xs hx hs => regroupCount_pure xs hx hs)

theorem regroupCount_row : Rows.RegroupCountUptoSaid :=
 OpenClaim.holds_of_cond 12 Tryz.f12 rfl rfl rfl rfl rfl rfl rfl ⟨rfl, rfl, rfl, rfl, rfl⟩ rfl rfl rfl rfl rfl (by kernel_rfl) Tryz.func12 (by kernel_rfl)
  (of_decide_eq_true (by kernel_rfl)) (by unfold Func.isWrapper; first | (rw [if_pos (by decide +kernel)]; kernel_rfl) | (rw [if_neg (by decide +kernel)]; exact ⟨rfl, rfl⟩))
  (fun os started H enc _ F => regroupCount_lifted os started H enc F)

theorem regroupCount_holds : Rows.RegroupCountUptoCardSaid :=
 Claim7.holds_tied_plain_at .later [] [.data, .data, .data, .data, .pinned] true (true, "42aa57ec9fd8dbe30d7f06299275172cc9671e43f9892e4eb64f8b0072ec2fd0") false regroupCount_row (fun _ h => by cases h) (by kernel_rfl) (fun _ h => by cases h) regroupCountUpto_row_tie rfl ⟨rfl, rfl⟩ (by kernel_rfl) rfl
  (fun f fn hf hfn => by
   obtain rfl : f = 12 := Option.some.inj ((show Tryz.prog.funcNamed Tryz.f12.name = some 12 by kernel_rfl).symm.trans hf) |>.symm
   obtain rfl : fn = Tryz.f12 := (Option.some.inj (Tryz.func12.symm.trans hfn)).symm
   refine ⟨by kernel_rfl, fun j t ht => ?_⟩
   have hall : (Tryz.f12.params.toList.all fun u => !Tryz.prog.wantsStandIn u) = true := by kernel_rfl
   have hm : t ∈ Tryz.f12.params.toList := by simpa using Array.mem_of_getElem? ht
   exact (show Tryz.prog.wantsStandIn t = false by simpa using List.all_eq_true.1 hall t hm))
  (by kernel_rfl)

#print axioms regroupCount_holds

end Go.Proofs.YtkaljlpbmbfpgaaGreatDoor
