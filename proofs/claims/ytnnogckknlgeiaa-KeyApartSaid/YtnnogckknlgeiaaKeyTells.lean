/- For every input the law leveelaw02.KeyTells returns true, and its input reads as it did. No condition. -/
import Derived.Test.YtnnogckknlgeiaaKeyTake
import Derived.SizedLaws
set_option linter.unusedVariables false
set_option linter.unusedSimpArgs false
namespace Go.Proofs.Ytnnogckknlgeiaa
open Go.Pu

theorem arg9 {x : PV} (h : ArgGd Try.prog 9 x) : ∃ s, x = .str s ∧ s.size ≤ reachBytes := by
  have e : ArgGd Try.prog 9 x = Gd Try.prog .str x := by kernel_rfl
  rw [e] at h
  cases h with
  | str s hs => exact ⟨s, rfl, hs⟩

theorem enc_len : ∀ es : List (List PV), es.length ≤ (encB es).length
  | [] => Nat.le_refl _
  | e :: es => by
    have := enc_len es
    obtain ⟨b, r, h⟩ := oneE_ne e
    rw [encB_cons, h]
    simp only [List.length_cons, List.length_append]
    omega

theorem keyTells_pure (zs : List PV) (h : ArgsGd Try.prog [22, 22, 9] zs) : ∃ n hc, call Try.prog X8 M0 L3 n 3 zs [] = some (.bool true, hc) := by
  match zs, h with
  | [x, y, z], ⟨h1, h2, h3, _⟩ =>
    obtain ⟨xs, rfl, x1, x2⟩ := arg22 h1
    obtain ⟨ys, rfl, y1, y2⟩ := arg22 h2
    obtain ⟨s, rfl, s1⟩ := arg9 h3
    refine pure_of_callK (noLS_ok _ _ _ _) (n := 12) (hc := []) ((ev3 0 xs ys s _).trans ?_)
    have t1 := decide_eq_true (show xs.length < 4611686018427387904 by omega)
    have t2 := decide_eq_true (show ys.length < 4611686018427387904 by omega)
    refine (if_pos t1).trans ?_
    by_cases p1 : shortL xs = true
    · refine (if_neg (by rw [p1]; decide)).trans ((if_pos t2).trans ?_)
      by_cases p2 : shortL ys = true
      · refine (if_neg (by rw [p2]; decide)).trans ?_
        by_cases p3 : s.size ≤ 2000
        · refine (if_neg (by rw [decide_eq_true_eq]; omega)).trans ?_
          have c1 := shortL_len p1
          have t3 := decide_eq_true (show s.size ≤ 9999999 by omega)
          have t4 := decide_eq_true (show xs.length ≤ 1000000 by omega)
          have e1 : (ByteArray.toList (bl (encL xs)) == ByteArray.toList (bl (encL xs))) = true := beq_self_eq_true _
          have e2 : (cmpL xs ys == cmpL xs ys) = true := beq_self_eq_true _
          cases hd : dec s.data.toList with
          | none =>
            simp only [t1, t3, t4, e1, e2, br, if_true, Option.isSome_none, Bool.false_eq_true, if_false]
          | some es =>
            obtain ⟨d1, d2⟩ := dec_iff.1 hd
            have hlen := enc_len es
            rw [d2] at hlen
            have hsz : s.data.toList.length = s.size := by simp
            have t5 := decide_eq_true (show es.length < 4611686018427387904 by omega)
            have e3 : (cmpL es es == (0 : Int)) = true := by rw [cmpL_self]; rfl
            by_cases he : es = []
            · subst he
              simp only [t1, t3, t4, e1, e2, e3, br, if_true, Option.isSome_some, Option.getD_some, decide_true]
            · have t6 : decide (es = []) = false := decide_eq_false he
              simp only [t1, t3, t4, t5, t6, e1, e2, e3, br, if_true, Option.isSome_some, Option.getD_some, Bool.false_eq_true, if_false]
        · exact if_pos (decide_eq_true (by omega))
      · exact if_pos (by simpa using p2)
    · exact if_pos (by simpa using p1)

set_option maxRecDepth 100000 in
theorem keyTells_lifted (os : Os) (started : os.Started) (H : Type) (enc : TypeId × Value → H) :
    ReturnsInHanded {} Try.checked os 3 .any (Rows.keyTellsSpec.pre6 enc Try.prog Try.f3 Rows.keyTellsRow.domain false) (Rows.keyTellsSpec.post enc Try.prog Try.f3 false true false false) :=
  law_lifted (C := Try.checked) (m := 3) (rt := 4) own started (by kernel_rfl) Try.func3
    (ChangeSpec.witness6 (enc := enc) (C := Try.checked) false ⟨#[], #[.slice none 0 0, .slice none 0 0, .string ByteArray.empty], []⟩ 8 (by kernel_rfl) (by kernel_rfl) (by kernel_rfl) (by kernel_rfl))
    rfl (fun ds hl => by
      match ds, hl with
      | [d1, d2, d3], _ => rfl) (by kernel_rfl) (by kernel_rfl) laidOut (by kernel_rfl) (by kernel_rfl) mixed named x8 (fun xs hx => keyTells_pure xs hx)

theorem keyTells_holds : Rows.KeyTellsSaid :=
  OpenClaim.holds_of_wide 3 Try.f3 rfl rfl rfl rfl rfl rfl rfl ⟨rfl, rfl, rfl, rfl, rfl⟩ rfl rfl rfl rfl rfl (by kernel_rfl) Try.func3 (by kernel_rfl)
    (of_decide_eq_true (by kernel_rfl)) (by unfold Func.isWrapper; first | (rw [if_pos (by decide +kernel)]; kernel_rfl) | (rw [if_neg (by decide +kernel)]; exact ⟨rfl, rfl⟩))
    (fun os started H enc _ => keyTells_lifted os started H enc)

#print axioms keyTells_holds

end Go.Proofs.Ytnnogckknlgeiaa
