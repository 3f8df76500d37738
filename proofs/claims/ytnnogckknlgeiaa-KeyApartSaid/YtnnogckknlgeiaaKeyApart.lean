/- For every input the law leveelaw02.KeyApart returns true, and its input reads as it did. No condition. -/
import Derived.Test.YtnnogckknlgeiaaKeyTells
section
/- Equations: what the machine prints. -/
set_option linter.unusedVariables false
namespace Go.Proofs.Ytnnogckknlgeiaa
open Go.Pu


set_option maxRecDepth 100000 in
theorem ev6 {R : Type} (n : Nat) (ls : List (List PV)) (v w v2 w2 m : Int) (s s2 : ByteArray) (k : PV × Heap → Option R) :
  callK br Try.prog X5 M0 L2 (fun _ _ _ => none) (n+12) 6 [.lst 32 ls, .agg [.int .i64 v, .int .i64 w, .str s, .int .i64 v2, .int .i64 w2, .str s2], .int .i64 m] [] k =
  br (decide (List.length ls < 4611686018427387904)) (br (!shortL ls) (k (PV.bool true, [])) (br (decide (List.length ls < 4611686018427387904)) (br (!mayL ls) (k (PV.bool true, [])) (br (!mayL [[PV.int IntKind.i64 v, PV.int IntKind.i64 w, PV.str s], [PV.int IntKind.i64 v2, PV.int IntKind.i64 w2, PV.str s2]]) (k (PV.bool true, [])) (br (decide (m < (0 : Int))) (k (PV.bool true, [])) (br (decide (m > (↑(List.length ls) : Int))) (k (PV.bool true, [])) (br (decide (List.length ls ≤ 1000000)) (br (decide ((0 : Int) ≤ (0 : Int) ∧ (0 : Int) ≤ m ∧ m ≤ (↑(List.length ls) : Int))) (br (decide (List.length (List.take (Int.toNat m - 0) ls) ≤ 1000000)) (br (decide ((↑(ByteArray.size (bl (encL [[PV.int IntKind.i64 v, PV.int IntKind.i64 w, PV.str s]]))) : Int) ≤ (↑(ByteArray.size (bl (encL [[PV.int IntKind.i64 v2, PV.int IntKind.i64 w2, PV.str s2]]))) : Int))) (br (decide ((0 : Int) ≤ (0 : Int) ∧ (0 : Int) ≤ (↑(ByteArray.size (bl (encL [[PV.int IntKind.i64 v, PV.int IntKind.i64 w, PV.str s]]))) : Int) ∧ (↑(ByteArray.size (bl (encL [[PV.int IntKind.i64 v, PV.int IntKind.i64 w, PV.str s]]))) : Int) ≤ (↑(ByteArray.size (bl (encL [[PV.int IntKind.i64 v2, PV.int IntKind.i64 w2, PV.str s2]]))) : Int))) (br (!(ByteArray.toList (ByteArray.extract (bl (encL [[PV.int IntKind.i64 v2, PV.int IntKind.i64 w2, PV.str s2]])) 0 (Int.toNat (↑(ByteArray.size (bl (encL [[PV.int IntKind.i64 v, PV.int IntKind.i64 w, PV.str s]]))) : Int))) == ByteArray.toList (bl (encL [[PV.int IntKind.i64 v, PV.int IntKind.i64 w, PV.str s]]))) == (v == v2 && (w == w2 && (ByteArray.toList s == ByteArray.toList s2 && true)))) (k (PV.bool false, [])) (br (decide ((↑(ByteArray.size (bl (encL (List.take (Int.toNat m - 0) ls)))) : Int) ≤ (↑(ByteArray.size (bl (encL ls))) : Int))) (br (decide ((0 : Int) ≤ (0 : Int) ∧ (0 : Int) ≤ (↑(ByteArray.size (bl (encL (List.take (Int.toNat m - 0) ls)))) : Int) ∧ (↑(ByteArray.size (bl (encL (List.take (Int.toNat m - 0) ls)))) : Int) ≤ (↑(ByteArray.size (bl (encL ls))) : Int))) (k (PV.bool (ByteArray.toList (ByteArray.extract (bl (encL ls)) 0 (Int.toNat (↑(ByteArray.size (bl (encL (List.take (Int.toNat m - 0) ls)))) : Int))) == ByteArray.toList (bl (encL (List.take (Int.toNat m - 0) ls)))), [])) none) (k (PV.bool false, [])))) none) (br (decide ((↑(ByteArray.size (bl (encL (List.take (Int.toNat m - 0) ls)))) : Int) ≤ (↑(ByteArray.size (bl (encL ls))) : Int))) (br (decide ((0 : Int) ≤ (0 : Int) ∧ (0 : Int) ≤ (↑(ByteArray.size (bl (encL (List.take (Int.toNat m - 0) ls)))) : Int) ∧ (↑(ByteArray.size (bl (encL (List.take (Int.toNat m - 0) ls)))) : Int) ≤ (↑(ByteArray.size (bl (encL ls))) : Int))) (k (PV.bool (ByteArray.toList (ByteArray.extract (bl (encL ls)) 0 (Int.toNat (↑(ByteArray.size (bl (encL (List.take (Int.toNat m - 0) ls)))) : Int))) == ByteArray.toList (bl (encL (List.take (Int.toNat m - 0) ls)))), [])) none) (k (PV.bool false, [])))) none) none) none))))) none)) none := by
  rw [← callF_eq]; kernel_rfl

end Go.Proofs.Ytnnogckknlgeiaa
end

section
/- For every input the law leveelaw02.KeyApart returns true, and its input reads as it did. No condition. -/
set_option linter.unusedVariables false
set_option linter.unusedSimpArgs false
namespace Go.Proofs.Ytnnogckknlgeiaa
open Go.Pu

theorem isV_of {x y z : PV} (g0 : Gd Try.prog (.int .i64) x) (g1 : Gd Try.prog (.int .i64) y) (g2 : Gd Try.prog .str z) : ∃ v w s, x = .int .i64 v ∧ y = .int .i64 w ∧ z = .str s ∧ isV [.int .i64 v, .int .i64 w, .str s] := by
  cases g0 with
  | int _ v hv =>
    cases g1 with
    | int _ w hw =>
      cases g2 with
      | str s hs => exact ⟨v, w, s, rfl, rfl, rfl, v, w, s, rfl, hv, hw, hs⟩

theorem arg33 {x : PV} (h : ArgGd Try.prog 33 x) : ∃ v w s v2 w2 s2, x = .agg [.int .i64 v, .int .i64 w, .str s, .int .i64 v2, .int .i64 w2, .str s2] ∧ isV [.int .i64 v, .int .i64 w, .str s] ∧ isV [.int .i64 v2, .int .i64 w2, .str s2] := by
  have e : ArgGd Try.prog 33 x = ∃ xs, x = .agg xs ∧ Gds Try.prog (kds Try.prog 33) xs := by kernel_rfl
  rw [e] at h
  obtain ⟨xs, rfl, hl, hg⟩ := h
  have l : kds Try.prog 33 = [.int .i64, .int .i64, .str, .int .i64, .int .i64, .str] := by kernel_rfl
  rw [l] at hl hg
  match xs, hl with
  | [a, b, c, d, f, g], _ =>
    obtain ⟨v, w, s, rfl, rfl, rfl, h1⟩ := isV_of (x := a) (y := b) (z := c) (hg 0 (by decide)) (hg 1 (by decide)) (hg 2 (by decide))
    obtain ⟨v2, w2, s2, rfl, rfl, rfl, h2⟩ := isV_of (x := d) (y := f) (z := g) (hg 3 (by decide)) (hg 4 (by decide)) (hg 5 (by decide))
    exact ⟨v, w, s, v2, w2, s2, rfl, h1, h2⟩

theorem arg3 {x : PV} (h : ArgGd Try.prog 3 x) : ∃ m, x = .int .i64 m := by
  have e : ArgGd Try.prog 3 x = Gd Try.prog (.int .i64) x := by kernel_rfl
  rw [e] at h
  cases h with
  | int _ m _ => exact ⟨m, rfl⟩

theorem okL_of3 {es : List (List PV)} (h : ∀ e ∈ es, isV e) (m : mayL es = true) : okL es := by
  intro e he
  exact ⟨h e he, by simp only [mayL, List.all_eq_true] at m; exact m e he⟩

/-- bytes of a value that begin another one's are those of the same value -/
theorem one_prefix {e f : List PV} (he : isV e) (me : mayE e = true) (hf : isV f) (mf : mayE f = true) (h : (oneE f).take (oneE e).length = oneE e) : e = f := by
  have h1 := oneE_cmp he me hf mf ((oneE f).drop (oneE e).length) []
  have h2 : oneE e ++ (oneE f).drop (oneE e).length = oneE f := by
    have := List.take_append_drop (oneE e).length (oneE f)
    rw [h] at this
    exact this
  rw [h2, List.append_nil, compareBytes_zero.2 rfl] at h1
  by_cases hc : cmpE e f = 0
  · exact cmpE_zero he hf hc
  · rw [if_neg hc] at h1; exact absurd h1.symm hc

theorem keyApart_pure (zs : List PV) (h : ArgsGd Try.prog [22, 33, 3] zs) : ∃ n hc, call Try.prog X5 M0 L2 n 6 zs [] = some (.bool true, hc) := by
  match zs, h with
  | [x, y, z], ⟨h1, h2, h3, _⟩ =>
    obtain ⟨ls, rfl, l1, l2⟩ := arg22 h1
    obtain ⟨v, w, s, v2, w2, s2, rfl, i1, i2⟩ := arg33 h2
    obtain ⟨m, rfl⟩ := arg3 h3
    refine pure_of_callK (noLS_ok _ _ _ _) (n := 12) (hc := []) ((ev6 0 ls v w v2 w2 m s s2 _).trans ?_)
    have t1 := decide_eq_true (show ls.length < 4611686018427387904 by omega)
    refine (if_pos t1).trans ?_
    by_cases p1 : shortL ls = true
    · refine (if_neg (by rw [p1]; decide)).trans ((if_pos t1).trans ?_)
      by_cases p2 : mayL ls = true
      · refine (if_neg (by rw [p2]; decide)).trans ?_
        by_cases p3 : mayL [[.int .i64 v, .int .i64 w, .str s], [.int .i64 v2, .int .i64 w2, .str s2]] = true
        · refine (if_neg (by rw [p3]; decide)).trans ?_
          by_cases p4 : m < 0
          · exact if_pos (decide_eq_true p4)
          · refine (if_neg (by rw [decide_eq_true_eq]; exact p4)).trans ?_
            by_cases p5 : m > (ls.length : Int)
            · exact if_pos (decide_eq_true p5)
            · refine (if_neg (by rw [decide_eq_true_eq]; exact p5)).trans ?_
              have c1 := shortL_len p1
              have hm3 : mayE [.int .i64 v, .int .i64 w, .str s] = true ∧ mayE [.int .i64 v2, .int .i64 w2, .str s2] = true := by
                simpa [mayL] using p3
              obtain ⟨m1, m2⟩ := hm3
              have n1 : encL [[.int .i64 v, .int .i64 w, .str s]] = oneE [.int .i64 v, .int .i64 w, .str s] := by
                have : mayL [[PV.int .i64 v, .int .i64 w, .str s]] = true := by simpa [mayL] using m1
                rw [encL, if_pos this, encB_cons]; simp [encB]
              have n2 : encL [[.int .i64 v2, .int .i64 w2, .str s2]] = oneE [.int .i64 v2, .int .i64 w2, .str s2] := by
                have : mayL [[PV.int .i64 v2, .int .i64 w2, .str s2]] = true := by simpa [mayL] using m2
                rw [encL, if_pos this, encB_cons]; simp [encB]
              obtain ⟨k, rfl⟩ := Int.eq_ofNat_of_zero_le (show 0 ≤ m by omega)
              have hk : k ≤ ls.length := by omega
              have hm4 : mayL (ls.take k) = true := by
                have a := p2
                simp only [mayL, List.all_eq_true] at a ⊢
                exact fun e he => a e (List.mem_of_mem_take he)
              have n3 : encL ls = encB ls := if_pos p2
              have n4 : encL (ls.take k) = encB (ls.take k) := if_pos hm4
              have sp : encB ls = encB (ls.take k) ++ encB (ls.drop k) := by
                have : encB (ls.take k ++ ls.drop k) = encB (ls.take k) ++ encB (ls.drop k) := by simp only [encB, List.flatMap_append]
                rw [List.take_append_drop] at this
                exact this
              have ek : ((k : Int).toNat - 0) = k := by omega
              refine (if_pos (decide_eq_true (by omega))).trans ((if_pos (decide_eq_true (by omega))).trans ((if_pos (decide_eq_true (by rw [List.length_take]; omega))).trans ?_))
              rw [ek, n1, n2, n3, n4]
              simp only [bl_size, Int.toNat_natCast]
              have last : br (decide (((encB (ls.take k)).length : Int) ≤ ((encB ls).length : Int))) (br (decide ((0 : Int) ≤ (0 : Int) ∧ (0 : Int) ≤ ((encB (ls.take k)).length : Int) ∧ ((encB (ls.take k)).length : Int) ≤ ((encB ls).length : Int))) (some (PV.bool (ByteArray.toList (ByteArray.extract (bl (encB ls)) 0 (encB (ls.take k)).length) == ByteArray.toList (bl (encB (ls.take k)))), ([] : Heap))) none) (some (PV.bool false, [])) = some (PV.bool true, []) := by
                have hle : (encB (ls.take k)).length ≤ (encB ls).length := by rw [sp, List.length_append]; omega
                refine (if_pos (decide_eq_true (by omega))).trans ((if_pos (decide_eq_true (by omega))).trans ?_)
                rw [extract_bl, bl_toList, bl_toList, bl_back, List.drop_zero, Nat.sub_zero]
                have : (encB ls).take (encB (ls.take k)).length = encB (ls.take k) := by rw [sp]; simp
                rw [this]
                simp
              by_cases q1 : (oneE [.int .i64 v, .int .i64 w, .str s]).length ≤ (oneE [.int .i64 v2, .int .i64 w2, .str s2]).length
              · refine (if_pos (decide_eq_true (by omega))).trans ((if_pos (decide_eq_true (by omega))).trans ((if_neg ?_).trans last))
                rw [extract_bl, bl_toList, bl_toList, bl_back, List.drop_zero, Nat.sub_zero, ByteArray.toList_eq, ByteArray.toList_eq]
                by_cases q2 : (oneE [.int .i64 v2, .int .i64 w2, .str s2]).take (oneE [.int .i64 v, .int .i64 w, .str s]).length = oneE [.int .i64 v, .int .i64 w, .str s]
                · have := one_prefix i1 m1 i2 m2 q2
                  simp only [List.cons.injEq, PV.int.injEq, PV.str.injEq, true_and, and_true] at this
                  obtain ⟨rfl, rfl, rfl⟩ := this
                  simp
                · have e1 : ((oneE [.int .i64 v2, .int .i64 w2, .str s2]).take (oneE [.int .i64 v, .int .i64 w, .str s]).length == oneE [.int .i64 v, .int .i64 w, .str s]) = false := by simpa using q2
                  rw [e1]
                  have e2 : (v == v2 && (w == w2 && (s.data.toList == s2.data.toList && true))) = false := by
                    cases hh : (v == v2 && (w == w2 && (s.data.toList == s2.data.toList && true))) with
                    | false => rfl
                    | true =>
                      simp only [Bool.and_eq_true, beq_iff_eq, and_true] at hh
                      obtain ⟨rfl, rfl, h5⟩ := hh
                      have := bl_inj h5
                      subst this
                      exact absurd (List.take_length ..) q2
                  rw [e2]
                  decide
              · exact (if_neg (by rw [decide_eq_true_eq]; omega)).trans last
        · exact if_pos (by simpa using p3)
      · exact if_pos (by simpa using p2)
    · exact if_pos (by simpa using p1)

set_option maxRecDepth 100000 in
theorem keyApart_lifted (os : Os) (started : os.Started) (H : Type) (enc : TypeId × Value → H) :
    ReturnsInHanded {} Try.checked os 6 .any (Rows.keyApartSpec.pre6 enc Try.prog Try.f6 Rows.keyApartRow.domain false) (Rows.keyApartSpec.post enc Try.prog Try.f6 false true false false) :=
  law_lifted (C := Try.checked) (m := 3) (rt := 4) own started (by kernel_rfl) Try.func6
    (ChangeSpec.witness6 (enc := enc) (C := Try.checked) false ⟨#[], #[.slice none 0 0, .agg #[.int .i64 0, .int .i64 0, .string ByteArray.empty, .int .i64 0, .int .i64 0, .string ByteArray.empty], .int .i64 0], []⟩ 8 (by kernel_rfl) (by kernel_rfl) (by kernel_rfl) (by kernel_rfl))
    rfl (fun ds hl => by
      match ds, hl with
      | [d1, d2, d3], _ => rfl) (by kernel_rfl) (by kernel_rfl) laidOut (by kernel_rfl) (by kernel_rfl) mixed named x5 (fun xs hx => keyApart_pure xs hx)

theorem keyApart_holds : Rows.KeyApartSaid :=
  OpenClaim.holds_of_wide 6 Try.f6 rfl rfl rfl rfl rfl rfl rfl ⟨rfl, rfl, rfl, rfl, rfl⟩ rfl rfl rfl rfl rfl (by kernel_rfl) Try.func6 (by kernel_rfl)
    (of_decide_eq_true (by kernel_rfl)) (by unfold Func.isWrapper; first | (rw [if_pos (by decide +kernel)]; kernel_rfl) | (rw [if_neg (by decide +kernel)]; exact ⟨rfl, rfl⟩))
    (fun os started H enc _ => keyApart_lifted os started H enc)

#print axioms keyApart_holds

end Go.Proofs.Ytnnogckknlgeiaa
end
