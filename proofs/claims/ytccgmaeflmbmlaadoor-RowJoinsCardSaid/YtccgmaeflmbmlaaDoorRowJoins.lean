/- For every input the law leveelaw04.RowJoins returns true, and its input reads as it did. No condition. -/
import Derived.Test.YtccgmaeflmbmlaaDoorVX
import Derived.Test.YtccgmaeflmbmlaaDoorKX
import Derived.Test.YtccgmaeflmbmlaaDoorTie
import Derived.Test.YtccgmaeflmbmlaaDoorCards
set_option linter.unusedVariables false
set_option linter.constructorNameAsVariable false
namespace Go.Proofs.YtccgmaeflmbmlaaDoor
open Go Go.Pu

set_option maxRecDepth 100000 in
theorem rowJoins_pure (zs : List PV) (h : ArgsGd Tryd.prog [50, 54, 54] zs) : ∃ n hc, call Tryd.prog X125 M0 L0 n 10 zs [] = some (.bool true, hc) := by
  match zs, h with
  | [x, y, z], ⟨h1, h2, h3, _⟩ =>
    obtain ⟨a, b, rfl, ha, hb⟩ := arg_two h1
    obtain ⟨k1, n1, p1, rfl⟩ := arg_cols h2
    obtain ⟨k2, n2, p2, rfl⟩ := arg_cols h3
    exact law_of_row (S := S_L04_RowJoins) (m := m_L04_RowJoins) (us := [.l (re a), .l (re b), .l (k1.map kE), .l (n1.map bE), .l (p1.map kE), .l (k2.map kE), .l (n2.map bE), .l (p2.map kE)]) (by kernel_rfl) (by kernel_rfl) rfl rfl (rowJoins_res a b ha hb k1 k2 p1 p2 n1 n2)

set_option maxRecDepth 100000 in
theorem rowJoins_lifted (os : Os) (started : os.Started) (H : Type) (enc : TypeId × Value → H) :
    ReturnsInHanded {} Tryd.checked os 10 .any (fun w args => (Rows.rowJoinsSpec.pre enc Tryd.prog Tryd.f10 [] false w args ∧ laidMetH Tryd.prog seatLaid w) ∧ sizedMet enc Tryd.prog Tryd.f10 (OpenSpec.ofChange Rows.rowJoinsSpec) false w args)
      (Rows.rowJoinsSpec.post enc Tryd.prog Tryd.f10 false true false false) :=
  law_laid (C := Tryd.checked) (laid := seatLaid) (m := 6) (rt := 4) own started (by kernel_rfl) Tryd.func10
    (ChangeSpec.witness_shaped (enc := enc) (C := Tryd.checked) (os := os) (X := fun w _ => laidMetH Tryd.prog seatLaid w) false (World.laidAll Tryd.prog os seatLaid) #[.agg #[.slice none 0 0, .slice none 0 0], .agg #[.slice none 0 0, .slice none 0 0, .slice none 0 0], .agg #[.slice none 0 0, .slice none 0 0, .slice none 0 0]] 8 (World.laidAll_os _ _ _)
      (World.shaped_of_ZipB (by kernel_rfl) (by kernel_rfl)) (by kernel_rfl) (by kernel_rfl) (by kernel_rfl) (laidWorld os _))
    laidPlain tabs_of rfl (fun ds hl => by
      match ds, hl with
      | [d1, d2, d3], _ => rfl) (by kernel_rfl) (by kernel_rfl) laidOut (by kernel_rfl) (by kernel_rfl) mixed named x125 (fun xs hx => rowJoins_pure xs hx)

theorem rowJoins_row : Rows.RowJoinsSaid :=
  OpenClaim.holds_of_wide 10 Tryd.f10 rfl rfl rfl rfl rfl rfl rfl ⟨rfl, rfl, rfl, rfl, rfl⟩ rfl rfl rfl rfl rfl (by kernel_rfl) Tryd.func10 (by kernel_rfl)
    (of_decide_eq_true (by kernel_rfl)) (by unfold Func.isWrapper; first | (rw [if_pos (by decide +kernel)]; kernel_rfl) | (rw [if_neg (by decide +kernel)]; exact ⟨rfl, rfl⟩))
    (fun os started H enc _ => rowJoins_lifted os started H enc)

theorem rowJoins_holds : Rows.RowJoinsCardSaid :=
  Claim7.holds_tied_plain_at .later [] [.data, .data, .data, .data, .pinned] true (true, "de28dc54ab1e7d491404f571952b04c1eea6d1870cfa25204f521d26c9e24a8d") false rowJoins_row (fun _ h => by cases h) (by kernel_rfl) (fun _ h => by cases h) rowJoins_row_tie rfl ⟨rfl, rfl⟩ (by kernel_rfl) rfl
    (fun f fn hf hfn => by
      obtain rfl : f = 10 := Option.some.inj ((show Tryd.prog.funcNamed Tryd.f10.name = some 10 by kernel_rfl).symm.trans hf) |>.symm
      obtain rfl : fn = Tryd.f10 := (Option.some.inj (Tryd.func10.symm.trans hfn)).symm
      refine ⟨by kernel_rfl, fun j t ht => ?_⟩
      have hall : (Tryd.f10.params.toList.all fun u => !Tryd.prog.wantsStandIn u) = true := by kernel_rfl
      have hm : t ∈ Tryd.f10.params.toList := by simpa using Array.mem_of_getElem? ht
      exact (show Tryd.prog.wantsStandIn t = false by simpa using List.all_eq_true.1 hall t hm))
    (by kernel_rfl)

#print axioms rowJoins_holds

end Go.Proofs.YtccgmaeflmbmlaaDoor
