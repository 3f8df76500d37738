/- For every input the law leveelaw02.KeySame returns true, and its input reads as it did. No condition. -/
import Derived.Test.YtnnogckknlgeiaaKeyBase
import Derived.SizedLaws
set_option linter.unusedVariables false
namespace Go.Proofs.Ytnnogckknlgeiaa
open Go.Pu

theorem keySame_pure (zs : List PV) (h : ArgsGd Try.prog [22, 22, 22] zs) : ∃ n hc, call Try.prog X3 M0 L1 n 7 zs [] = some (.bool true, hc) := by
  match zs, h with
  | [x, y, z], ⟨h1, h2, h3, _⟩ =>
    obtain ⟨ls, rfl, l1, l2⟩ := arg22 h1
    obtain ⟨xs, rfl, x1, x2⟩ := arg22 h2
    obtain ⟨ys, rfl, y1, y2⟩ := arg22 h3
    refine pure_of_callK (noLS_ok _ _ _ _) (n := 9) (hc := []) ((ev7 0 ls xs ys _).trans ?_)
    have b1 : ls.length < 4611686018427387904 := by omega
    have b2 : xs.length < 4611686018427387904 := by omega
    have b3 : ys.length < 4611686018427387904 := by omega
    have t1 := decide_eq_true b1
    have t2 := decide_eq_true b2
    have t3 := decide_eq_true b3
    refine (if_pos t1).trans ?_
    by_cases s1 : shortL ls = true
    · refine (if_neg (by rw [s1]; decide)).trans ((if_pos t2).trans ?_)
      by_cases s2 : shortL xs = true
      · refine (if_neg (by rw [s2]; decide)).trans ((if_pos t3).trans ?_)
        by_cases s3 : shortL ys = true
        · refine (if_neg (by rw [s3]; decide)).trans ?_
          have c1 := shortL_len s1
          have c2 := shortL_len s2
          have c3 := shortL_len s3
          refine (if_pos (decide_eq_true (by omega))).trans ((if_pos (decide_eq_true (by omega))).trans ((if_pos (decide_eq_true (by omega))).trans ((if_pos (decide_eq_true (by omega))).trans ((if_pos t1).trans ((if_pos (decide_eq_true (by rw [List.length_append]; omega))).trans ((if_pos t2).trans ?_))))))
          rw [cmpL_append, cmpL_more]
          refine (if_pos (by simp)).trans ?_
          by_cases hx : xs = []
          · subst hx; rfl
          · have : ¬ xs.length = 0 := fun e => hx (List.length_eq_zero_iff.1 e)
            rw [if_neg hx]
            refine (if_pos ?_).trans rfl
            have h0 : ((xs.length : Int) == 0) = false := by simpa using this
            rw [h0]; rfl
        · exact if_pos (by simpa using s3)
      · exact if_pos (by simpa using s2)
    · exact if_pos (by simpa using s1)

theorem own : ownKnob Try.prog.godebug = none := by kernel_rfl
theorem laidOut : laidOutB Try.prog = true := by kernel_rfl

set_option maxRecDepth 100000 in
theorem keySame_lifted (os : Os) (started : os.Started) (H : Type) (enc : TypeId × Value → H) :
    ReturnsInHanded {} Try.checked os 7 .any (Rows.keySameSpec.pre6 enc Try.prog Try.f7 Rows.keySameRow.domain false) (Rows.keySameSpec.post enc Try.prog Try.f7 false true false false) :=
  law_lifted (C := Try.checked) (m := 3) (rt := 4) own started (by kernel_rfl) Try.func7
    (ChangeSpec.witness6 (enc := enc) (C := Try.checked) false ⟨#[], #[.slice none 0 0, .slice none 0 0, .slice none 0 0], []⟩ 8 (by kernel_rfl) (by kernel_rfl) (by kernel_rfl) (by kernel_rfl))
    rfl (fun ds hl => by
      match ds, hl with
      | [d1, d2, d3], _ => rfl) (by kernel_rfl) (by kernel_rfl) laidOut (by kernel_rfl) (by kernel_rfl) mixed named x3 (fun xs hx => keySame_pure xs hx)

theorem keySame_holds : Rows.KeySameSaid :=
  OpenClaim.holds_of_wide 7 Try.f7 rfl rfl rfl rfl rfl rfl rfl ⟨rfl, rfl, rfl, rfl, rfl⟩ rfl rfl rfl rfl rfl (by kernel_rfl) Try.func7 (by kernel_rfl)
    (of_decide_eq_true (by kernel_rfl)) (by unfold Func.isWrapper; first | (rw [if_pos (by decide +kernel)]; kernel_rfl) | (rw [if_neg (by decide +kernel)]; exact ⟨rfl, rfl⟩))
    (fun os started H enc _ => keySame_lifted os started H enc)

#print axioms keySame_holds

end Go.Proofs.Ytnnogckknlgeiaa
