/- For every input the law leveelaw02.KeyRises returns true, and its input reads as it did. No condition. -/
import Derived.Test.YtnnogckknlgeiaaKeyEnc
import Derived.SizedLaws
set_option linter.unusedVariables false
namespace Go.Proofs.Ytnnogckknlgeiaa
open Go.Pu

theorem okL_of {es : List (List PV)} (h : ∀ e ∈ es, isV e) (m : mayL es = true) : okL es := by
  intro e he
  exact ⟨h e he, by simp only [mayL, List.all_eq_true] at m; exact m e he⟩

theorem encL_of {es : List (List PV)} (m : mayL es = true) : encL es = encB es := if_pos m

theorem cb_pm (a b : List UInt8) : Lib.compareBytes a b = 0 ∨ Lib.compareBytes a b = 1 ∨ Lib.compareBytes a b = -1 := by
  rw [compareBytes_less]
  split
  · simp
  · split <;> simp

theorem keyRises_pure (zs : List PV) (h : ArgsGd Try.prog [22, 22] zs) : ∃ n hc, call Try.prog X5 M0 L2 n 4 zs [] = some (.bool true, hc) := by
  match zs, h with
  | [x, y], ⟨h1, h2, _⟩ =>
    obtain ⟨xs, rfl, x1, x2⟩ := arg22 h1
    obtain ⟨ys, rfl, y1, y2⟩ := arg22 h2
    refine pure_of_callK (noLS_ok _ _ _ _) (n := 12) (hc := []) ((ev4 0 xs ys _).trans ?_)
    have t1 := decide_eq_true (show xs.length < 4611686018427387904 by omega)
    have t2 := decide_eq_true (show ys.length < 4611686018427387904 by omega)
    refine (if_pos t1).trans ?_
    by_cases s1 : shortL xs = true
    · refine (if_neg (by rw [s1]; decide)).trans ((if_pos t2).trans ?_)
      by_cases s2 : shortL ys = true
      · refine (if_neg (by rw [s2]; decide)).trans ((if_pos t1).trans ?_)
        by_cases m1 : mayL xs = true
        · refine (if_neg (by rw [m1]; decide)).trans ((if_pos t2).trans ?_)
          by_cases m2 : mayL ys = true
          · have c1 := shortL_len s1
            have c2 := shortL_len s2
            have ec := enc_cmp (okL_of x2 m1) (okL_of y2 m2)
            have ec2 := enc_cmp (okL_of y2 m2) (okL_of x2 m1)
            rw [cb_neg, ec] at ec2
            have cl := compareBytes_less (encB xs) (encB ys)
            rw [ec] at cl
            refine (if_neg (by rw [m2]; decide)).trans ((if_pos (decide_eq_true (by omega))).trans ((if_pos (decide_eq_true (by omega))).trans ((if_pos t1).trans ?_)))
            rw [bl_toList, bl_toList, encL_of m1, encL_of m2]
            refine (if_pos ?_).trans ((if_pos ?_).trans ((if_pos t2).trans ?_))
            · cases hl : Op.bytesLess (encB xs) (encB ys) with
              | true => rw [hl, if_pos rfl] at cl; rw [cl]; rfl
              | false =>
                rw [hl, if_neg (by decide)] at cl
                split at cl <;> rw [cl] <;> rfl
            · by_cases he : encB xs = encB ys
              · have : cmpL xs ys = 0 := by rw [← ec]; exact compareBytes_zero.2 he
                rw [this, he]; simp
              · have : ¬ cmpL xs ys = 0 := fun h => he (compareBytes_zero.1 (ec.trans h))
                have e1 : (encB xs == encB ys) = false := by simpa using he
                have e2 : (cmpL xs ys == 0) = false := by simpa using this
                rw [e1, e2]; rfl
            · have pm := cb_pm (encB xs) (encB ys)
              rw [ec] at pm
              rw [← ec2]
              have : IntKind.i64.wrap (0 - cmpL xs ys) = - cmpL xs ys := by rw [wrap_i64 (by omega) (by omega)]; omega
              rw [this]; simp
          · exact if_pos (by simpa using m2)
        · exact if_pos (by simpa using m1)
      · exact if_pos (by simpa using s2)
    · exact if_pos (by simpa using s1)

set_option maxRecDepth 100000 in
theorem keyRises_lifted (os : Os) (started : os.Started) (H : Type) (enc : TypeId × Value → H) :
    ReturnsInHanded {} Try.checked os 4 .any (Rows.keyRisesSpec.pre6 enc Try.prog Try.f4 Rows.keyRisesRow.domain false) (Rows.keyRisesSpec.post enc Try.prog Try.f4 false true false false) :=
  law_lifted (C := Try.checked) (m := 3) (rt := 4) own started (by kernel_rfl) Try.func4
    (ChangeSpec.witness6 (enc := enc) (C := Try.checked) false ⟨#[], #[.slice none 0 0, .slice none 0 0], []⟩ 8 (by kernel_rfl) (by kernel_rfl) (by kernel_rfl) (by kernel_rfl))
    rfl (fun ds hl => by
      match ds, hl with
      | [d1, d2], _ => rfl) (by kernel_rfl) (by kernel_rfl) laidOut (by kernel_rfl) (by kernel_rfl) mixed named x5 (fun xs hx => keyRises_pure xs hx)

theorem keyRises_holds : Rows.KeyRisesSaid :=
  OpenClaim.holds_of_wide 4 Try.f4 rfl rfl rfl rfl rfl rfl rfl ⟨rfl, rfl, rfl, rfl, rfl⟩ rfl rfl rfl rfl rfl (by kernel_rfl) Try.func4 (by kernel_rfl)
    (of_decide_eq_true (by kernel_rfl)) (by unfold Func.isWrapper; first | (rw [if_pos (by decide +kernel)]; kernel_rfl) | (rw [if_neg (by decide +kernel)]; exact ⟨rfl, rfl⟩))
    (fun os started H enc _ => keyRises_lifted os started H enc)

#print axioms keyRises_holds

end Go.Proofs.Ytnnogckknlgeiaa
