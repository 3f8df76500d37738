/- For every input the law leveelaw02.KeyBack returns true, and its input reads as it did. No condition. -/
import Derived.Test.YtnnogckknlgeiaaKeyTells
set_option linter.unusedVariables false
set_option linter.unusedSimpArgs false
namespace Go.Proofs.Ytnnogckknlgeiaa
open Go.Pu

theorem okL_may {es : List (List PV)} (h : okL es) : mayL es = true := by
  simp only [mayL, List.all_eq_true]
  exact fun e he => (h e he).2

theorem okL_of2 {es : List (List PV)} (h : ∀ e ∈ es, isV e) (m : mayL es = true) : okL es := by
  intro e he
  exact ⟨h e he, by simp only [mayL, List.all_eq_true] at m; exact m e he⟩

theorem encB_append (xs ys : List (List PV)) : encB (xs ++ ys) = encB xs ++ encB ys := by simp [encB]

set_option maxHeartbeats 2000000 in
theorem keyBack_pure (zs : List PV) (h : ArgsGd Try.prog [22, 22, 9] zs) : ∃ n hc, call Try.prog X8 M0 L3 n 5 zs [] = some (.bool true, hc) := by
  match zs, h with
  | [x, y, z], ⟨h1, h2, h3, _⟩ =>
    obtain ⟨xs, rfl, x1, x2⟩ := arg22 h1
    obtain ⟨ys, rfl, y1, y2⟩ := arg22 h2
    obtain ⟨s, rfl, s1⟩ := arg9 h3
    refine pure_of_callK (noLS_ok _ _ _ _) (n := 12) (hc := []) ((ev5 0 xs ys s _).trans ?_)
    have t1 := decide_eq_true (show xs.length < 4611686018427387904 by omega)
    have t2 := decide_eq_true (show ys.length < 4611686018427387904 by omega)
    refine (if_pos t1).trans ?_
    by_cases p1 : shortL xs = true
    · refine (if_neg (by rw [p1]; decide)).trans ((if_pos t2).trans ?_)
      by_cases p2 : shortL ys = true
      · refine (if_neg (by rw [p2]; decide)).trans ?_
        by_cases p3 : s.size ≤ 2000
        · refine (if_neg (by rw [decide_eq_true_eq]; omega)).trans ?_
          have c1 := shortL_len p1
          have c2 := shortL_len p2
          have t3 := decide_eq_true (show s.size ≤ 9999999 by omega)
          have t4 := decide_eq_true (show xs.length ≤ 1000000 by omega)
          have t7 := decide_eq_true (show ys.length ≤ 1000000 by omega)
          have t8 := decide_eq_true (show (0 + xs.length) * 32 ≤ 140737488355328 by omega)
          have t9 := decide_eq_true (show (xs.length + ys.length) * 32 ≤ 140737488355328 by omega)
          have t10 := decide_eq_true (show (xs ++ ys).length ≤ 1000000 by rw [List.length_append]; omega)
          have hsz : s.data.toList.length = s.size := by simp
          have tail : br (decide (xs.length < 4611686018427387904)) (br (!mayL xs) (some (PV.bool true, ([] : Heap))) (br (decide (ys.length < 4611686018427387904)) (br (!mayL ys) (some (PV.bool true, [])) (br (decide (xs.length ≤ 1000000)) (br (decide (ByteArray.size (bl (encL xs)) ≤ 9999999)) (br (Option.isSome (dec (encL xs))) (br (decide (Option.getD (dec (encL xs)) [] = [])) (br (decide ((0 + List.length xs) * 32 ≤ 140737488355328)) (br (decide ((List.length xs + List.length ys) * 32 ≤ 140737488355328)) (br (cmpL [] xs == (0 : Int)) (br (decide (List.length (xs ++ ys) ≤ 1000000)) (br (decide (List.length xs ≤ 1000000)) (br (decide (List.length ys ≤ 1000000)) (br (decide (ByteArray.size (bl (encL xs)) + ByteArray.size (bl (encL ys)) ≤ 9223372036854775807)) (some (PV.bool (ByteArray.toList (bl (encL (xs ++ ys))) == ByteArray.toList (bl (encL xs) ++ bl (encL ys))), [])) none) none) none) none) (some (PV.bool false, []))) none) none) (br (decide ((0 + List.length xs) * 32 ≤ 140737488355328)) (br (decide ((List.length xs + List.length ys) * 32 ≤ 140737488355328)) (br (decide (List.length (Option.getD (dec (encL xs)) []) < 4611686018427387904)) (br (cmpL (Option.getD (dec (encL xs)) []) xs == (0 : Int)) (br (decide (List.length (xs ++ ys) ≤ 1000000)) (br (decide (List.length xs ≤ 1000000)) (br (decide (List.length ys ≤ 1000000)) (br (decide (ByteArray.size (bl (encL xs)) + ByteArray.size (bl (encL ys)) ≤ 9223372036854775807)) (some (PV.bool (ByteArray.toList (bl (encL (xs ++ ys))) == ByteArray.toList (bl (encL xs) ++ bl (encL ys))), [])) none) none) none) none) (some (PV.bool false, []))) none) none) none)) (br (decide ((0 + List.length xs) * 32 ≤ 140737488355328)) (br (decide ((List.length xs + List.length ys) * 32 ≤ 140737488355328)) (some (PV.bool false, [])) none) none)) none) none)) none)) none = some (PV.bool true, []) := by
            refine (if_pos t1).trans ?_
            by_cases m1 : mayL xs = true
            · refine (if_neg (by rw [m1]; decide)).trans ((if_pos t2).trans ?_)
              by_cases m2 : mayL ys = true
              · refine (if_neg (by rw [m2]; decide)).trans ((if_pos t4).trans ?_)
                have o1 := okL_of2 x2 m1
                have o2 := okL_of2 y2 m2
                have n1 : encL xs = encB xs := if_pos m1
                have n2 : encL ys = encB ys := if_pos m2
                have m3 : mayL (xs ++ ys) = true := by
                  have a1 := m1
                  have a2 := m2
                  simp only [mayL] at a1 a2 ⊢
                  rw [List.all_append, a1, a2]; rfl
                have n3 : encL (xs ++ ys) = encB xs ++ encB ys := (if_pos m3).trans (encB_append xs ys)
                have b1 := encB_length fun e he => (o1 e he).2
                have b2 := encB_length fun e he => (o2 e he).2
                have d1 : dec (encB xs) = some xs := dec_iff.2 ⟨o1, rfl⟩
                have e3 : (cmpL xs xs == (0 : Int)) = true := by rw [cmpL_self]; rfl
                have e4 : ((encB xs ++ encB ys) == (encB xs ++ encB ys)) = true := beq_self_eq_true _
                rw [n1, n2, n3, d1, bl_append, bl_size, bl_size, bl_toList]
                have t11 := decide_eq_true (show (encB xs).length ≤ 9999999 by omega)
                have t12 := decide_eq_true (show (encB xs).length + (encB ys).length ≤ 9223372036854775807 by omega)
                by_cases he : xs = []
                · subst he
                  simp only [t1, t2, t3, t4, t7, t8, t9, t10, t11, t12, e3, e4, br, if_true, Option.isSome_some, Option.getD_some, decide_true]
                · have t6 : decide (xs = []) = false := decide_eq_false he
                  simp only [t1, t2, t3, t4, t6, t7, t8, t9, t10, t11, t12, e3, e4, br, if_true, Option.isSome_some, Option.getD_some, Bool.false_eq_true, if_false]
              · exact if_pos (by simpa using m2)
            · exact if_pos (by simpa using m1)
          refine (if_pos t3).trans ?_
          cases hd : dec s.data.toList with
          | none => exact (if_neg (by decide)).trans tail
          | some es =>
            obtain ⟨d1, d2⟩ := dec_iff.1 hd
            have hlen := enc_len es
            rw [d2] at hlen
            refine (if_pos rfl).trans ?_
            by_cases he : es = []
            · subst he
              refine (if_pos (by simp)).trans ((if_neg ?_).trans tail)
              rw [ByteArray.toList_eq, ← d2]
              decide
            · refine (if_neg (by simpa using he)).trans ((if_pos (decide_eq_true (by simp only [Option.getD_some]; omega))).trans ((if_neg ?_).trans tail))
              rw [bl_toList, Option.getD_some, ByteArray.toList_eq]
              have : encL es = s.data.toList := (if_pos (okL_may d1)).trans d2
              rw [this]
              simp
        · exact if_pos (decide_eq_true (by omega))
      · exact if_pos (by simpa using p2)
    · exact if_pos (by simpa using p1)

set_option maxRecDepth 100000 in
theorem keyBack_lifted (os : Os) (started : os.Started) (H : Type) (enc : TypeId × Value → H) :
    ReturnsInHanded {} Try.checked os 5 .any (Rows.keyBackSpec.pre6 enc Try.prog Try.f5 Rows.keyBackRow.domain false) (Rows.keyBackSpec.post enc Try.prog Try.f5 false true false false) :=
  law_lifted (C := Try.checked) (m := 3) (rt := 4) own started (by kernel_rfl) Try.func5
    (ChangeSpec.witness6 (enc := enc) (C := Try.checked) false ⟨#[], #[.slice none 0 0, .slice none 0 0, .string ByteArray.empty], []⟩ 8 (by kernel_rfl) (by kernel_rfl) (by kernel_rfl) (by kernel_rfl))
    rfl (fun ds hl => by
      match ds, hl with
      | [d1, d2, d3], _ => rfl) (by kernel_rfl) (by kernel_rfl) laidOut (by kernel_rfl) (by kernel_rfl) mixed named x8 (fun xs hx => keyBack_pure xs hx)

theorem keyBack_holds : Rows.KeyBackSaid :=
  OpenClaim.holds_of_wide 5 Try.f5 rfl rfl rfl rfl rfl rfl rfl ⟨rfl, rfl, rfl, rfl, rfl⟩ rfl rfl rfl rfl rfl (by kernel_rfl) Try.func5 (by kernel_rfl)
    (of_decide_eq_true (by kernel_rfl)) (by unfold Func.isWrapper; first | (rw [if_pos (by decide +kernel)]; kernel_rfl) | (rw [if_neg (by decide +kernel)]; exact ⟨rfl, rfl⟩))
    (fun os started H enc _ => keyBack_lifted os started H enc)

#print axioms keyBack_holds

end Go.Proofs.Ytnnogckknlgeiaa
