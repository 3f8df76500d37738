/- Texts of this seat, one behind the other. -/
import Derived.Test.YtinnnhiaamjjlaaVX
set_option linter.unusedVariables false
set_option linter.unusedSimpArgs false
namespace Go.Proofs.Ytinnnhiaamjjlaa
open Go Go.Pu

/-! texts -/

end Go.Proofs.Ytinnnhiaamjjlaa

set_option linter.unusedVariables false
set_option linter.unusedSimpArgs false
namespace Go.Proofs.Ytinnnhiaamjjlaa
open Go Go.Pu

theorem one1_e (r : List Val) (n : Int) (h : n ≠ 0) : (one1 r n).map Cnt.e = [[PV.lst 28 (re r), pI n]] := by
  unfold one1; rw [if_pos h]; rfl
theorem one1_0 (r : List Val) : one1 r 0 = [] := by unfold one1; rw [if_neg (by simp)]

theorem room2 {α : Type} (l : List α) (x : α) {k : Nat} (h : l.length ≤ k) (hk : k ≤ 4398046511102) : ((l ++ [x]).length + 1) * 32 ≤ 140737488355328 := by
  have : (l ++ [x]).length = l.length + 1 := by simp
  omega

/-- behind the place where the row was laid -/
theorem add_laid (b : List Cnt) (hb : okB b) (r : List Val) (n : Int) : ∀ m i (o : List Cnt), b.length - i = m → i ≤ b.length → o.length ≤ i + 1 → b.length ≤ 4398046511102 → (∀ c ∈ b.drop i, c.row ≠ r) →
    lres rd_R05_Add_39_4 [.l (b.map Cnt.e), .l (re r), .i n, .b true, .i (i : Nat), .l (o.map Cnt.e)] = some (0, [.l (re r), .i n, .b true, .l ((o ++ b.drop i).map Cnt.e)]) := by
  intro m
  induction m with
  | zero =>
    intro i o h1 h2 h3 h4 h5
    have : i = b.length := by omega
    subst this
    refine lres_stop ?_
    simp [rd_R05_Add_39_4]
  | succ m ih =>
    intro i o h1 h2 h3 h4 h5
    have h : i < b.length := by omega
    have hd := List.drop_eq_getElem_cons h
    have hc := R02_Compare_res b[i].row r (hb.2 _ (List.getElem_mem h)).1.1
    have hne : ¬ cmpR b[i].row r = 0 := fun e => h5 b[i] (by rw [hd]; exact List.mem_cons_self ..) ((cR.zero _ _).1 e)
    have hne' : (cmpR b[i].row r != 0) = true := by simpa using hne
    have e1 : ((o.map Cnt.e).length + 1) * 32 ≤ 140737488355328 := by rw [List.length_map]; omega
    have hr : (rd_R05_Add_39_4 [.l (b.map Cnt.e), .l (re r), .i n, .b true, .i (i : Nat), .l (o.map Cnt.e)]).val = some (.next [.l (b.map Cnt.e), .l (re r), .i n, .b true, .i ((i + 1 : Nat) : Int), .l ((o ++ [b[i]]).map Cnt.e)]) := by
      rw [map_app_e, List.map_cons, List.map_nil, show b[i].e = [PV.lst 28 (re b[i].row), pI b[i].n] from rfl]
      simp only [rd_R05_Add_39_4, rt_test, rt_next, rt_stop, el_map _ _ h, row_e, n_e, ln_map, inR_cast, Int.ofNat_lt, h, decide_true, if_true, hc, ok_some', out_some, uI_0, beq_self_eq_true, hne', e1, Bool.not_true, Bool.false_eq_true, if_false, w64_succ (i := i) (by omega)]
      split <;> rfl
    rw [lres_next hr, ih (i + 1) (o ++ [b[i]]) (by omega) (by omega) (by simp; omega) h4 (fun c hc => h5 c (by rw [hd]; exact List.mem_cons_of_mem _ hc)), hd, List.append_assoc]
    rfl

theorem add_loop (b : List Cnt) (hb : okB b) (hlen : b.length ≤ 4398046511102) (hr0 : rising b) (r : List Val) (n : Int) (hn : n.natAbs ≤ 2305843009213693952) (hbn : ∀ c ∈ b, c.n.natAbs ≤ 2305843009213693952) : ∀ m i (o : List Cnt), b.length - i = m → i ≤ b.length → o.length ≤ i →
    ∃ lb o', lres rd_R05_Add_39_4 [.l (b.map Cnt.e), .l (re r), .i n, .b false, .i (i : Nat), .l (o.map Cnt.e)] = some (0, [.l (re r), .i n, .b lb, .l (o'.map Cnt.e)]) ∧
      (lb = true → o' = o ++ addC (b.drop i) r n) ∧ (lb = false → o' = o ++ b.drop i ∧ addC (b.drop i) r n = b.drop i ++ one1 r n ∧ o'.length ≤ b.length) := by
  intro m
  induction m with
  | zero =>
    intro i o h1 h2 h3
    have : i = b.length := by omega
    subst this
    refine ⟨false, o, lres_stop ?_, fun h => (by cases h), fun _ => ⟨by simp, by simp [addC], by omega⟩⟩
    simp [rd_R05_Add_39_4]
  | succ m ih =>
    intro i o h1 h2 h3
    have h : i < b.length := by omega
    have hd := List.drop_eq_getElem_cons h
    have hm := List.getElem_mem h
    have hc := R02_Compare_res b[i].row r (hb.2 _ hm).1.1
    have e1 : ((o.map Cnt.e).length + 1) * 32 ≤ 140737488355328 := by rw [List.length_map]; omega
    have e2 : ∀ x : List PV, ((o.map Cnt.e ++ [x]).length + 1) * 32 ≤ 140737488355328 := fun x => room2 _ x (k := i) (by rw [List.length_map]; exact h3) (by omega)
    have hrest : ∀ c ∈ b.drop (i + 1), cmpR b[i].row c.row < 0 := by
      have := hr0.sublist (List.drop_sublist i b)
      rw [hd] at this
      exact (List.pairwise_cons.1 this).1
    have hbi : b[i].e = [PV.lst 28 (re b[i].row), pI b[i].n] := rfl
    rcases cR.rng b[i].row r with hx | hx | hx
    · -- ahead
      have hr : (rd_R05_Add_39_4 [.l (b.map Cnt.e), .l (re r), .i n, .b false, .i (i : Nat), .l (o.map Cnt.e)]).val = some (.next [.l (b.map Cnt.e), .l (re r), .i n, .b false, .i ((i + 1 : Nat) : Int), .l ((o ++ [b[i]]).map Cnt.e)]) := by
        rw [map_app_e, List.map_cons, List.map_nil, hbi]
        simp only [rd_R05_Add_39_4, rt_test, rt_next, rt_stop, el_map _ _ h, row_e, n_e, ln_map, inR_cast, Int.ofNat_lt, h, decide_true, if_true, hc, hx, ok_some', out_some, uI_0, beq_self_eq_true, e1, w64_succ (i := i) (by omega)]
        rfl
      obtain ⟨lb, o', k1, k2, k3⟩ := ih (i + 1) (o ++ [b[i]]) (by omega) (by omega) (by simp; omega)
      refine ⟨lb, o', by rw [lres_next hr, k1], fun hl => ?_, fun hl => ?_⟩
      · rw [k2 hl, hd, addC, if_pos (by omega), List.append_assoc]; rfl
      · obtain ⟨q1, q2, q3⟩ := k3 hl
        refine ⟨by rw [q1, hd, List.append_assoc]; rfl, ?_, q3⟩
        rw [hd, addC, if_pos (by omega), q2]; rfl
    · -- the row itself
      have hxe := (cR.zero _ _).1 hx
      have hb1 := hbn _ hm
      have w : w64 (n + b[i].n) = n + b[i].n := w64_eq (by omega) (by omega)
      have hadd : addC (b.drop i) r n = one1 r (n + b[i].n) ++ b.drop (i + 1) := by rw [hd, addC, if_neg (by omega), if_pos hx]
      have hr : (rd_R05_Add_39_4 [.l (b.map Cnt.e), .l (re r), .i n, .b false, .i (i : Nat), .l (o.map Cnt.e)]).val = some (.next [.l (b.map Cnt.e), .l (re r), .i n, .b true, .i ((i + 1 : Nat) : Int), .l ((o ++ one1 r (n + b[i].n)).map Cnt.e)]) := by
        rw [map_app_e]
        by_cases hz : n + b[i].n = 0
        · rw [hz, one1_0]
          simp only [rd_R05_Add_39_4, rt_test, rt_next, rt_stop, el_map _ _ h, row_e, n_e, ln_map, inR_cast, Int.ofNat_lt, h, decide_true, if_true, hc, hx, ok_some', out_some, uI_0, beq_self_eq_true, e1, w, hz, bne_self_eq_false, Bool.false_eq_true, if_false, Bool.not_false, w64_succ (i := i) (by omega), List.map_nil, List.append_nil]
          rfl
        · have hz' : (n + b[i].n != 0) = true := by simpa using hz
          rw [one1_e _ _ hz]
          simp only [rd_R05_Add_39_4, rt_test, rt_next, rt_stop, el_map _ _ h, row_e, n_e, ln_map, inR_cast, Int.ofNat_lt, h, decide_true, if_true, hc, hx, ok_some', out_some, uI_0, beq_self_eq_true, e1, w, hz', bne_self_eq_false, Bool.false_eq_true, if_false, Bool.not_false, w64_succ (i := i) (by omega)]
          rfl
      have ho : (o ++ one1 r (n + b[i].n)).length ≤ i + 1 + 1 := by
        rw [List.length_append]; unfold one1; split <;> simp <;> omega
      have hl := add_laid b hb r n (b.length - (i + 1)) (i + 1) (o ++ one1 r (n + b[i].n)) rfl (by omega) ho hlen (fun c hc => by
        have := lt_ne (hrest c hc)
        rw [hxe] at this
        exact fun e => this e.symm)
      exact ⟨true, o ++ one1 r (n + b[i].n) ++ b.drop (i + 1), by rw [lres_next hr, hl], fun _ => by rw [hadd, List.append_assoc], fun h => (by cases h)⟩
    · -- behind
      have hadd : addC (b.drop i) r n = one1 r n ++ b.drop i := by
        have h1 : ¬ cmpR b[i].row r < 0 := by omega
        have h2 : ¬ cmpR b[i].row r = 0 := by omega
        rw [hd, addC, if_neg h1, if_neg h2]
      have hr : (rd_R05_Add_39_4 [.l (b.map Cnt.e), .l (re r), .i n, .b false, .i (i : Nat), .l (o.map Cnt.e)]).val = some (.next [.l (b.map Cnt.e), .l (re r), .i n, .b true, .i ((i + 1 : Nat) : Int), .l ((o ++ one1 r n ++ [b[i]]).map Cnt.e)]) := by
        rw [map_app_e, map_app_e, List.map_cons, List.map_nil, hbi]
        by_cases hz : n = 0
        · rw [hz, one1_0]
          simp only [rd_R05_Add_39_4, rt_test, rt_next, rt_stop, el_map _ _ h, row_e, n_e, ln_map, inR_cast, Int.ofNat_lt, h, decide_true, if_true, hc, hx, ok_some', out_some, uI_0, beq_self_eq_true, e1, bne_self_eq_false, Bool.false_eq_true, if_false, Bool.not_false, w64_succ (i := i) (by omega), List.map_nil, List.append_nil]
          rfl
        · have hz' : (n != 0) = true := by simpa using hz
          rw [one1_e _ _ hz]
          simp only [rd_R05_Add_39_4, rt_test, rt_next, rt_stop, el_map _ _ h, row_e, n_e, ln_map, inR_cast, Int.ofNat_lt, h, decide_true, if_true, hc, hx, ok_some', out_some, uI_0, beq_self_eq_true, e1, e2, hz', Bool.false_eq_true, if_false, Bool.not_false, w64_succ (i := i) (by omega)]
          rfl
      have ho : (o ++ one1 r n ++ [b[i]]).length ≤ i + 1 + 1 := by
        rw [List.length_append, List.length_append]; unfold one1; split <;> simp <;> omega
      have hl := add_laid b hb r n (b.length - (i + 1)) (i + 1) (o ++ one1 r n ++ [b[i]]) rfl (by omega) ho hlen (fun c hc e => by
        have h1 := hrest c hc
        rw [e] at h1
        omega)
      refine ⟨true, o ++ one1 r n ++ [b[i]] ++ b.drop (i + 1), by rw [lres_next hr, hl], fun _ => ?_, fun h => (by cases h)⟩
      rw [hadd, hd]
      simp

theorem Add_res5 (b : List Cnt) (hb : okB b) (hlen : b.length ≤ 4398046511102) (hr : rising b) (r : List Val) (n : Int) (hn : n.natAbs ≤ 2305843009213693952) (hbn : ∀ c ∈ b, c.n.natAbs ≤ 2305843009213693952) :
    (m_R05_Add [.l (b.map Cnt.e), .l (re r), .i n]).res = some (0, [.l ((addC b r n).map Cnt.e)]) := by
  obtain ⟨lb, o', h1, h2, h3⟩ := add_loop b hb hlen hr r n hn hbn b.length 0 [] (by omega) (by omega) (by simp)
  simp only [Int.natCast_zero, List.map_nil, List.drop_zero, List.nil_append] at h1 h2 h3
  cases lb with
  | true =>
    rw [h2 rfl] at h1
    simp only [m_R05_Add, h1, ok_some', out_some, res_test, res_stop, uB_s, uB_0, uL_s, uL_0, beq_self_eq_true, if_true, Bool.not_true, Bool.false_eq_true, if_false]
  | false =>
    obtain ⟨q1, q2, q3⟩ := h3 rfl
    subst q1
    have e1 : ((o'.map Cnt.e).length + 1) * 32 ≤ 140737488355328 := by rw [List.length_map]; omega
    rw [q2, map_app_e]
    by_cases hz : n = 0
    · subst hz
      rw [one1_0]
      simp only [m_R05_Add, h1, ok_some', out_some, res_test, res_stop, uB_s, uB_0, uI_s, uI_0, uL_s, uL_0, beq_self_eq_true, if_true, Bool.not_false, bne_self_eq_false, Bool.false_eq_true, if_false, List.map_nil, List.append_nil]
    · have hz' : (n != 0) = true := by simpa using hz
      rw [one1_e _ _ hz]
      simp only [m_R05_Add, h1, ok_some', out_some, res_test, res_stop, uB_s, uB_0, uI_s, uI_0, uL_s, uL_0, beq_self_eq_true, if_true, Bool.not_false, hz', e1, decide_true]

end Go.Proofs.Ytinnnhiaamjjlaa

set_option linter.unusedVariables false
set_option linter.unusedSimpArgs false
namespace Go.Proofs.Ytinnnhiaamjjlaa
open Go Go.Pu

/-! what fits -/

end Go.Proofs.Ytinnnhiaamjjlaa

set_option linter.unusedVariables false
set_option linter.unusedSimpArgs false
namespace Go.Proofs.Ytinnnhiaamjjlaa
open Go Go.Pu

/-! sorted rows -/

end Go.Proofs.Ytinnnhiaamjjlaa

set_option linter.unusedVariables false
set_option linter.unusedSimpArgs false
namespace Go.Proofs.Ytinnnhiaamjjlaa
open Go Go.Pu

end Go.Proofs.Ytinnnhiaamjjlaa

set_option linter.unusedVariables false
set_option linter.unusedSimpArgs false
namespace Go.Proofs.Ytinnnhiaamjjlaa
open Go Go.Pu

theorem sumB_okB {l : List Cnt} (h : okB l) (ha : absN l ≤ 4611686018427387904) : okB (sumB l) := by
  refine ⟨Nat.le_trans (sumB_len l) h.1, fun c hc => ?_⟩
  obtain ⟨d, hd, e⟩ := sumB_row hc
  refine ⟨by rw [← e]; exact (h.2 d hd).1, ?_⟩
  have := cnt_abs l c.row
  rw [sumB_n hc]
  unfold i64
  omega
theorem sumB_snoc (l : List Cnt) (c : Cnt) : sumB (l ++ [c]) = addC (sumB l) c.row c.n := by unfold sumB; rw [List.foldl_append]; rfl

/-! the reference's order of rows -/

end Go.Proofs.Ytinnnhiaamjjlaa

set_option linter.unusedVariables false
set_option linter.unusedSimpArgs false
namespace Go.Proofs.Ytinnnhiaamjjlaa
open Go Go.Pu

def rowsT (l : List Rec) : List (List Val) := l.map Rec.row
def bagT (l : List Rec) : List Cnt := if mayL l = true then sumB ((rowsT l).map oneC) else []

theorem rowsT_may {l : List Rec} (h : mayL l = true) : (rowsT l).all mayR = true := by
  rw [List.all_eq_true]
  intro r hr
  obtain ⟨c, hc, rfl⟩ := List.mem_map.1 hr
  have := mayL_all h c hc
  simp only [Rec.right, Bool.and_eq_true] at this
  exact this.1.1.1

theorem rel_Bag_res (s : List UInt8) {l : List Rec} (hl : okL l) (hfew : l.length ≤ 1000000) : (m_rel_Bag [.s (bs s), .l (l.map Rec.e)]).res = some (0, [.l ((bagT l).map Cnt.e)]) := by
  have hM := rel_May_res s l hl
  by_cases hm : mayL l = true
  · have h := loop_acc (rd := rd_rel_Bag_24_5) l.length (fun i => [.l (l.map Rec.e), .i l.length, .i (i : Nat), .l ((rowsT (l.take i)).map reR)]) (some (0, [.l ((rowsT l).map reR)]))
      (lres_stop (by simp [rd_rel_Bag_24_5])) (by
      intro i hi
      have hb : ((rowsT (l.take i)).length + 1) * 24 ≤ 140737488355328 := by rw [rowsT, List.length_map, List.length_take]; omega
      have e : (rowsT (l.take (i + 1))).map reR = (rowsT (l.take i)).map reR ++ [[PV.lst 28 (re l[i].row)]] := by
        rw [take_succ hi, rowsT, rowsT, List.map_append, List.map_append]; rfl
      rw [e]
      generalize rowsT (l.take i) = t at hb ⊢
      simp [rd_rel_Bag_24_5, hi, Rec.e, hb, w64_succ (i := i) (by omega)])
    have e0 : (rowsT (l.take 0)).map reR = [] := rfl
    simp only [Int.natCast_zero, e0] at h
    have hB := bag_Of_res (rowsT l) (by rw [rowsT, List.length_map]; exact hfew) (fun r hr => by
      obtain ⟨c, hc, rfl⟩ := List.mem_map.1 hr
      exact (hl.2 c hc).1)
    have e1 : ofB (rowsT l) = bagT l := by rw [ofB, if_pos (rowsT_may hm), bagT, if_pos hm]
    rw [e1] at hB
    simp [m_rel_Bag, hM, hm, h, hB]
  · have hm' : mayL l = false := by simpa using hm
    have e1 : bagT l = [] := by rw [bagT, if_neg hm]
    rw [e1]
    simp [m_rel_Bag, hM, hm']

theorem R16_Bag_res (s : List UInt8) {l : List Rec} (hl : okL l) (hfew : l.length ≤ 1000000) : (m_R16_Bag [.s (bs s), .l (l.map Rec.e)]).res = some (0, [.l ((bagT l).map Cnt.e)]) := by
  have hM := R16_May_res s l hl
  by_cases hm : mayL l = true
  · have h := loop_acc (rd := rd_R16_Bag_25_3) l.length (fun i => [.i (i : Nat), .s (bs s), .l (l.map Rec.e), .l ((sumB ((rowsT (l.take i)).map oneC)).map Cnt.e)]) (some (0, [.l ((sumB ((rowsT l).map oneC)).map Cnt.e)]))
      (lres_stop (by simp [rd_R16_Bag_25_3])) (by
      intro i hi
      have hrow := hl.2 l[i] (List.getElem_mem hi)
      have ht : ∀ r ∈ rowsT (l.take i), okR r := fun r hr => by
        obtain ⟨c, hc, rfl⟩ := List.mem_map.1 hr
        exact (hl.2 c (List.mem_of_mem_take hc)).1
      have hlt : (rowsT (l.take i)).length ≤ 1000000 := by rw [rowsT, List.length_map, List.length_take]; omega
      have ho := one_okB hlt ht
      have ha := one_abs (rowsT (l.take i))
      have hle := sumB_len ((rowsT (l.take i)).map oneC)
      rw [List.length_map] at hle
      have e : addC (sumB ((rowsT (l.take i)).map oneC)) l[i].row 1 = sumB ((rowsT (l.take (i + 1))).map oneC) := by
        rw [take_succ hi, rowsT, rowsT, List.map_append, List.map_append]
        exact (sumB_snoc _ (oneC l[i].row)).symm
      have hadd := Add_res5 (sumB ((rowsT (l.take i)).map oneC)) (sumB_okB ho (by omega)) (by omega) (sumB_canon _).1 l[i].row 1 (by decide) (fun c hc => by
        have := cnt_abs ((rowsT (l.take i)).map oneC) c.row
        rw [sumB_n hc]; omega)
      rw [e] at hadd
      generalize (sumB ((rowsT (l.take i)).map oneC)).map Cnt.e = A at *
      generalize (sumB ((rowsT (l.take (i + 1))).map oneC)).map Cnt.e = B at *
      simp [rd_R16_Bag_25_3, hM, hm, hi, Rec.e, hadd, w64_succ (i := i) (by omega)])
    have e0 : (sumB ((rowsT (l.take 0)).map oneC)).map Cnt.e = [] := rfl
    simp only [Int.natCast_zero, e0] at h
    have e1 : bagT l = sumB ((rowsT l).map oneC) := by rw [bagT, if_pos hm]
    rw [e1]
    simp [m_R16_Bag, h]
  · have hm' : mayL l = false := by simpa using hm
    have e1 : bagT l = [] := by rw [bagT, if_neg hm]
    rw [e1]
    have : lres rd_R16_Bag_25_3 [.i 0, .s (bs s), .l (l.map Rec.e), .l []] = some (0, [.l []]) := by
      refine lres_stop ?_
      by_cases h : 0 < l.length
      · simp [rd_R16_Bag_25_3, h, hM, hm']
      · simp [rd_R16_Bag_25_3, h]
    simp [m_R16_Bag, this]

theorem bagT_ok {l : List Rec} (hl : okL l) (hfew : l.length ≤ 1000000) : okB (bagT l) := by
  unfold bagT
  split
  · exact sumB_okB (one_okB (by rw [rowsT, List.length_map]; exact hfew) (fun r hr => by
      obtain ⟨c, hc, rfl⟩ := List.mem_map.1 hr
      exact (hl.2 c hc).1)) (by rw [one_abs, rowsT, List.length_map]; omega)
  · exact ⟨by simp, fun c hc => by cases hc⟩

end Go.Proofs.Ytinnnhiaamjjlaa

set_option linter.unusedVariables false
set_option linter.unusedSimpArgs false
namespace Go.Proofs.Ytinnnhiaamjjlaa
open Go Go.Pu

theorem R16_SameRecs_res {a b : List Rec} (ha : okL a) (hb : okL b) : (m_R16_SameRecs [.l (a.map Rec.e), .l (b.map Rec.e)]).res = some (0, [.b (decide (a = b))]) := by
  have h0 := ha.1
  by_cases hl : a.length = b.length
  · have h := loop_eq hl (rd := rd_R16_SameRecs_17_4) (fun i => [.l (a.map Rec.e), .l (b.map Rec.e), .i (i : Nat)]) 0 1 [.b false] [] (by simp [rd_R16_SameRecs_17_4]) (by
      intro i h1 h2
      have hc := R02_Compare_res a[i].row b[i].row (ha.2 _ (List.getElem_mem h1)).1.1
      have hz := cR.zero a[i].row b[i].row
      have hx := rec_ext (x := a[i]) (y := b[i])
      by_cases he : a[i] = b[i]
      · have hs := cR.self b[i].row
        rw [he] at hc
        simp [rd_R16_SameRecs_17_4, el_at _ h1, el_at _ h2, h1, h2, Rec.e, w64_succ (i := i) (by omega), he, hc, hs]
      · by_cases hn : a[i].tid = b[i].tid
        · have hr : ¬ cmpR a[i].row b[i].row = 0 := fun h => he (hx.1 ⟨hn, hz.1 h⟩)
          simp [rd_R16_SameRecs_17_4, el_at _ h1, el_at _ h2, h1, h2, Rec.e, he, hn, hc, hr]
        · simp [rd_R16_SameRecs_17_4, el_at _ h1, el_at _ h2, h1, h2, Rec.e, he, hn])
    simp only [Int.natCast_zero] at h
    by_cases he : a = b
    · subst he
      simp at h
      simp [m_R16_SameRecs, h]
    · rw [if_neg he] at h
      simp [m_R16_SameRecs, h, hl, he]
  · have hl' : ¬ (a.length : Int) = b.length := by omega
    have he : a ≠ b := fun e => hl (by rw [e])
    simp [m_R16_SameRecs, hl', he]

end Go.Proofs.Ytinnnhiaamjjlaa

set_option linter.unusedVariables false
set_option linter.unusedSimpArgs false
namespace Go.Proofs.Ytinnnhiaamjjlaa
open Go Go.Pu

theorem okL_nil : okL [] := ⟨by simp, fun c hc => by cases hc⟩

theorem putL_ok {l : List Rec} (hl : okL l) (hfew : l.length ≤ 1000000) {c : Rec} (hc : c.ok) : okL (putL l c) := by
  refine ⟨?_, fun d hd => ?_⟩
  · have h1 := List.length_filter_le (ltK c.key) l
    have h2 := List.length_filter_le (gtK c.key) l
    simp only [putL, List.length_append, List.length_cons]; omega
  · rcases List.mem_append.1 hd with h | h
    · exact hl.2 d (List.mem_filter.1 h).1
    · rcases List.mem_cons.1 h with rfl | h
      · exact hc
      · exact hl.2 d (List.mem_filter.1 h).1

theorem putL_len {l : List Rec} (hm : mayL l = true) (c : Rec) : (putL l c).length ≤ l.length + 1 := by
  have hsp := congrArg List.length (sorted_parts (mayL_pair hm) c.key)
  simp only [putL, List.length_append, List.length_cons] at hsp ⊢
  omega

theorem putT_ok {r : Rel} (hr : r.ok) (hfew : r.recs.length ≤ 1000000) {c : Rec} (hc : c.ok) : (putT r c).ok := by
  unfold putT
  split
  · exact ⟨hr.1, putL_ok hr.2 hfew hc⟩
  · exact ⟨by simp, okL_nil⟩

theorem cutT_ok {r : Rel} (hr : r.ok) (k : Val) : okL (recsO (cutT r k)) := by
  unfold cutT
  split
  · exact okL_sub hr.2 List.filter_sublist
  · exact okL_nil

def gotR (o : Option Rec) : Rec := ⟨rowO o, tidO o⟩

theorem gotR_ok {l : List Rec} (hl : okL l) (k : Val) : (gotR (getL l k)).ok := by
  cases h : getL l k with
  | none => exact ⟨⟨by simp [gotR, rowO], fun v hv => by simp [gotR, rowO] at hv⟩, by simp [gotR, tidO, i64]⟩
  | some c =>
    have hm := getL_may h
    exact hl.2 c ((getL_iff hm).1 h).1

theorem scanL_ok {l : List Rec} (hl : okL l) (a b : Val) : okL (scanL l a b) := by
  unfold scanL
  split
  · exact okL_sub hl List.filter_sublist
  · exact okL_nil

theorem same_res {r s : Rel} (hr : okL r.recs) (hs : okL s.recs) : (m_R16_Same [.s (bs r.name), .l (r.recs.map Rec.e), .s (bs s.name), .l (s.recs.map Rec.e)]).res = some (0, [.b (decide (r.name = s.name) && decide (r.recs = s.recs))]) := by
  have h := R16_SameRecs_res hr hs
  by_cases h1 : r.name = s.name
  · by_cases h2 : r.recs = s.recs
    · rw [h2] at h
      rw [h2]
      simp [m_R16_Same, h, h1]
    · simp [m_R16_Same, h, h1, h2]
  · simp [m_R16_Same, h1]

theorem same_self {s : List UInt8} {l : List Rec} (h : okL l) : (m_R16_Same [.s (bs s), .l (l.map Rec.e), .s (bs s), .l (l.map Rec.e)]).res = some (0, [.b true]) := by
  have := same_res (r := ⟨s, l⟩) (s := ⟨s, l⟩) h h
  simpa using this

theorem one_self {c : Rec} (h : c.ok) : (m_R16_SameRecs [.l [Rec.e c], .l [Rec.e c]]).res = some (0, [.b true]) := by
  have ho : okL [c] := ⟨by simp, fun d hd => by rw [List.mem_singleton.1 hd]; exact h⟩
  have := R16_SameRecs_res ho ho
  simpa using this

set_option maxHeartbeats 4000000 in
theorem relTells_res {r : Rel} (hr : r.ok) {c : Rec} (hc : c.ok) (k t : Val) :
    (m_L16_RelTells [.s (bs r.name), .l (r.recs.map Rec.e), .l (re c.row), .i c.tid, .i k.k, .i k.n, .s (bs k.s), .i t.k, .i t.n, .s (bs t.s)]).res = some (0, [.b true]) := by
  have s1 := R16_Small_res hr
  have s2 := R02_Short_res hc.1
  by_cases c1 : smallT r = true
  · by_cases c2 : shortR c.row = true
    · have hfew : r.recs.length ≤ 60 := by
        have := c1
        simp only [smallT, Bool.and_eq_true, decide_eq_true_eq] at this
        exact this.1.2
      have hf2 : r.recs.length ≤ 1000000 := by omega
      have a1 := rel_Get_res r.name hr.2 k
      have a2 := R16_Get_res r.name hr.2 k
      have a3 := rel_Cut_res hr hf2 k
      have a4 := R16_Cut_res hr k
      have a5 := rel_May_res r.name r.recs hr.2
      have a6 := R16_May_res r.name r.recs hr.2
      have a7 := one_self (gotR_ok hr.2 k)
      have a8 := same_self (s := nameO (cutT r k)) (cutT_ok hr k)
      have a9 := rel_Put_res hr hf2 hc
      have b1 := R16_Put_res' hr hfew hc
      have b2 := same_self (s := (putT r c).name) (putT_ok hr hf2 hc).2
      have b3 := rel_Scan_res r.name hr.2 k t
      have b4 := R16_Scan_res r.name hr.2 k t
      have b5 := R16_SameRecs_res (scanL_ok hr.2 k t) (scanL_ok hr.2 k t)
      have b6 := rel_Bag_res r.name hr.2 hf2
      have b7 := R16_Bag_res r.name hr.2 hf2
      have b8 := R05_Same_res (bagT_ok hr.2 hf2) (bagT_ok hr.2 hf2)
      simp only [gotR, Rec.e] at a7
      simp only [decide_true] at b5 b8
      generalize getL r.recs k = o at *
      generalize (recsO (cutT r k)).map Rec.e = X at *
      generalize ((putT r c).recs).map Rec.e = Y at *
      generalize (scanL r.recs k t).map Rec.e = Z at *
      generalize (bagT r.recs).map Cnt.e = W at *
      simp [m_L16_RelTells, s1, s2, c1, c2, a1, a2, a3, a4, a5, a6, a7, a8, a9, b1, b2, b3, b4, b5, b6, b7, b8]
    · have c2' : shortR c.row = false := by simpa using c2
      simp [m_L16_RelTells, s1, s2, c1, c2']
  · have c1' : smallT r = false := by simpa using c1
    simp [m_L16_RelTells, s1, c1']

/-! what is put, and cut -/

theorem put_cut {l : List Rec} (hm : mayL l = true) {c : Rec} : (putL l c).filter (notK c.key) = l.filter (notK c.key) := by
  have hlt : ∀ d, ltK c.key d = true → notK c.key d = true := fun d h => by
    simp only [ltK, decide_eq_true_eq] at h
    simp only [notK, Bool.not_eq_true', decide_eq_false_iff_not]
    intro e; rw [e, cV.self] at h; omega
  have hgt : ∀ d, gtK c.key d = true → notK c.key d = true := fun d h => by
    simp only [gtK, decide_eq_true_eq] at h
    simp only [notK, Bool.not_eq_true', decide_eq_false_iff_not]
    intro e; rw [e, cV.self] at h; omega
  have e1 : (l.filter (ltK c.key)).filter (notK c.key) = l.filter (ltK c.key) := List.filter_eq_self.2 fun d hd => hlt d (List.mem_filter.1 hd).2
  have e2 : (l.filter (gtK c.key)).filter (notK c.key) = l.filter (gtK c.key) := List.filter_eq_self.2 fun d hd => hgt d (List.mem_filter.1 hd).2
  have e3 : (l.filter (eqK c.key)).filter (notK c.key) = [] := by
    rw [List.filter_eq_nil_iff]
    intro d hd
    have := (List.mem_filter.1 hd).2
    simp only [eqK, decide_eq_true_eq] at this
    simp [notK, this]
  have e4 : notK c.key c = false := by simp [notK]
  conv => rhs; rw [sorted_parts (mayL_pair hm) c.key]
  rw [putL, List.filter_append, List.filter_append, List.filter_append, List.filter_cons, e4, e1, e2, e3]
  simp

theorem getL_cut {l : List Rec} (hm : mayL l = true) (k j : Val) : getL (l.filter (notK k)) j = if j = k then none else getL l j := by
  have hm2 := mayL_filter hm (notK k)
  split
  · rename_i e
    subst e
    rw [getL_none hm2]
    intro d hd e
    have := (List.mem_filter.1 hd).2
    simp [notK, e] at this
  · rename_i e
    cases h : getL l j with
    | none =>
      rw [getL_none hm] at h
      rw [getL_none hm2]
      exact fun d hd => h d (List.mem_filter.1 hd).1
    | some d =>
      obtain ⟨h1, h2⟩ := (getL_iff hm).1 h
      rw [getL_iff hm2]
      exact ⟨List.mem_filter.2 ⟨h1, by simp [notK, h2, e]⟩, h2⟩

theorem cut_self {l : List Rec} (hm : mayL l = true) {k : Val} (h : getL l k = none) : l.filter (notK k) = l := by
  rw [getL_none hm] at h
  exact List.filter_eq_self.2 fun d hd => by simp [notK, h d hd]

/-- tables of the same records are the same -/
theorem rise_ext : ∀ {a b : List Rec}, a.Pairwise (fun x y => cmpV x.key y.key < 0) → b.Pairwise (fun x y => cmpV x.key y.key < 0) → (∀ c, c ∈ a ↔ c ∈ b) → a = b
  | [], [], _, _, _ => rfl
  | [], y :: b, _, _, h => by have := (h y).2 (List.mem_cons_self ..); cases this
  | x :: a, [], _, _, h => by have := (h x).1 (List.mem_cons_self ..); cases this
  | x :: a, y :: b, ha, hb, h => by
    obtain ⟨ha1, ha2⟩ := List.pairwise_cons.1 ha
    obtain ⟨hb1, hb2⟩ := List.pairwise_cons.1 hb
    have hxy : x = y := by
      rcases List.mem_cons.1 ((h x).1 (List.mem_cons_self ..)) with e | e
      · exact e
      · rcases List.mem_cons.1 ((h y).2 (List.mem_cons_self ..)) with e' | e'
        · exact e'.symm
        · have h1 := hb1 x e
          have h2 := ha1 y e'
          have := cV.lt_trans h1 h2
          rw [cV.self] at this; omega
    subst hxy
    have ne : ∀ (l : List Rec), (∀ c ∈ l, cmpV x.key c.key < 0) → x ∉ l := fun l hl hx => by
      have := hl x hx
      rw [cV.self] at this; omega
    rw [rise_ext ha2 hb2 fun c => ?_]
    have := h c
    simp only [List.mem_cons] at this
    constructor
    · intro hc
      rcases this.1 (.inr hc) with e | e
      · subst e; exact absurd hc (ne a ha1)
      · exact e
    · intro hc
      rcases this.2 (.inr hc) with e | e
      · subst e; exact absurd hc (ne b hb1)
      · exact e

theorem rel_ext {a b : List Rec} (ha : mayL a = true) (hb : mayL b = true) (h : ∀ k, getL a k = getL b k) : a = b := by
  refine rise_ext (mayL_pair ha) (mayL_pair hb) fun c => ?_
  have h1 := getL_iff ha (k := c.key) (c := c)
  have h2 := getL_iff hb (k := c.key) (c := c)
  rw [h c.key] at h1
  exact ⟨fun hc => (h2.1 (h1.2 ⟨hc, rfl⟩)).1, fun hc => (h1.1 (h2.2 ⟨hc, rfl⟩)).1⟩

end Go.Proofs.Ytinnnhiaamjjlaa

set_option linter.unusedVariables false
set_option linter.unusedSimpArgs false
namespace Go.Proofs.Ytinnnhiaamjjlaa
open Go Go.Pu

theorem small_few {r : Rel} (h : smallT r = true) : r.recs.length ≤ 60 := by
  simp only [smallT, Bool.and_eq_true, decide_eq_true_eq] at h
  exact h.1.2

theorem two_self {c : Rec} (h : c.ok) : (m_R16_SameRecs [.l [Rec.e c, Rec.e c], .l [Rec.e c, Rec.e c]]).res = some (0, [.b true]) := by
  have ho : okL [c, c] := ⟨by simp, fun d hd => by
    have : d = c := by simpa using hd
    rw [this]; exact h⟩
  have := R16_SameRecs_res ho ho
  simpa using this

set_option maxHeartbeats 8000000 in
theorem relPuts_res {r : Rel} (hr : r.ok) {c : Rec} (hc : c.ok) (k t : Val) :
    (m_L16_RelPuts [.s (bs r.name), .l (r.recs.map Rec.e), .l (re c.row), .i c.tid, .i k.k, .i k.n, .s (bs k.s), .i t.k, .i t.n, .s (bs t.s)]).res = some (0, [.b true]) := by
  have s1 := R16_Small_res hr
  have s2 := R16_May_res r.name r.recs hr.2
  have s3 := R16_Right_res c hc
  by_cases c1 : smallT r = true
  · by_cases c2 : mayL r.recs = true
    · by_cases c3 : c.right = true
      · have hfew := small_few c1
        have hf2 : r.recs.length ≤ 1000000 := by omega
        have hrow := right_len c3
        have hg := hd_re hrow
        have hkey : hd c.row = c.key := rfl
        rw [hkey] at hg
        -- what was put
        have a1 := rel_Put_res hr hf2 hc
        have eP : putT r c = ⟨r.name, putL r.recs c⟩ := by rw [putT, if_pos ⟨c2, c3⟩]
        rw [eP] at a1
        dsimp only at a1
        have hm2 := putL_may c2 c3
        have ok2 : okL (putL r.recs c) := putL_ok hr.2 hf2 hc
        have len2 := putL_len c2 c
        have hr2 : (⟨r.name, putL r.recs c⟩ : Rel).ok := ⟨hr.1, ok2⟩
        have g1 : getL (putL r.recs c) c.key = some c := by rw [getL_put c2 c3, if_pos rfl]
        have a2 := rel_Get_res r.name ok2 c.key
        rw [g1] at a2
        -- and cut
        have a3 := rel_Cut_res hr2 (by show (putL r.recs c).length ≤ 1000000; omega) c.key
        have eC : cutT ⟨r.name, putL r.recs c⟩ c.key = some ⟨r.name, r.recs.filter (notK c.key)⟩ := by simp only [cutT, g1, put_cut c2]
        rw [eC] at a3
        simp only [nameO, recsO, Option.isSome_some] at a3
        have hm3 := mayL_filter c2 (notK c.key)
        have ok3 : okL (r.recs.filter (notK c.key)) := okL_sub hr.2 List.filter_sublist
        have g2 : getL (r.recs.filter (notK c.key)) c.key = none := by rw [getL_cut c2, if_pos rfl]
        have a4 := rel_Get_res r.name ok3 c.key
        rw [g2] at a4
        have a5 := R02_Compare_res c.row c.row hc.1.1
        rw [cR.self] at a5
        have a6 := rel_May_res r.name (putL r.recs c) ok2
        have a7 := rel_May_res r.name (r.recs.filter (notK c.key)) ok3
        rw [hm2] at a6
        rw [hm3] at a7
        -- the old one without it
        have a8 := rel_Cut_res hr hf2 c.key
        have e8 : (cutT r c.key).isSome = (getL r.recs c.key).isSome := by
          unfold cutT; split <;> (rename_i h; rw [h]; rfl)
        have last : (getL r.recs c.key).isSome = true → nameO (cutT r c.key) = r.name ∧ recsO (cutT r c.key) = r.recs.filter (notK c.key) := fun h => by
          obtain ⟨d, hd⟩ := Option.isSome_iff_exists.1 h
          have : cutT r c.key = some ⟨r.name, r.recs.filter (notK c.key)⟩ := by simp only [cutT, hd]
          rw [this]; exact ⟨rfl, rfl⟩
        rw [e8] at a8
        have a9 := same_self (s := r.name) ok3
        -- other keys
        have b1 := rel_Get_res r.name hr.2 k
        have b2 := rel_Get_res r.name ok2 k
        have b3 := rel_Get_res r.name ok3 k
        rw [getL_put c2 c3] at b2
        rw [getL_cut c2] at b3
        have b4 := two_self (gotR_ok hr.2 k)
        simp only [gotR, Rec.e] at b4
        have hke := val_ext (v := k) (w := c.key)
        simp only [tidO, rowO, Option.isSome_some, Option.isSome_none] at a2 a4
        have hcut : (getL r.recs c.key).isSome = false → r.recs.filter (notK c.key) = r.recs := fun h => cut_self c2 (by simpa using h)
        generalize hP : (putL r.recs c).map Rec.e = P at *
        generalize hQ : (r.recs.filter (notK c.key)).map Rec.e = Q at *
        have fin : ∀ (b : Bool), (getL r.recs c.key).isSome = b → (b = true → (m_R16_Same [.s (bs r.name), .l Q, .s (bs (nameO (cutT r c.key))), .l ((recsO (cutT r c.key)).map Rec.e)]).res = some (0, [.b true])) ∧ (b = false → (m_R16_Same [.s (bs r.name), .l Q, .s (bs r.name), .l (r.recs.map Rec.e)]).res = some (0, [.b true])) := by
          intro b hb
          refine ⟨fun h => ?_, fun h => ?_⟩
          · obtain ⟨h1, h2⟩ := last (hb.trans h)
            rw [h1, h2, hQ]; exact a9
          · have h2 := hcut (hb.trans h)
            have : r.recs.map Rec.e = Q := by rw [← hQ, h2]
            rw [this]; exact a9
        obtain ⟨f1, f2⟩ := fin _ rfl
        by_cases e : k = c.key
        · obtain ⟨e1, e2, e3⟩ := hke.2 e
          cases hb : (getL r.recs c.key).isSome with
          | true =>
            rw [hb] at a8
            have f1 := f1 hb
            simp [m_L16_RelPuts, s1, s2, s3, c1, c2, c3, hrow, hg, Val.e, a1, a2, a3, a4, a5, a6, a7, a8, f1, e1, e2, e3]
          | false =>
            rw [hb] at a8
            have f2 := f2 hb
            simp [m_L16_RelPuts, s1, s2, s3, c1, c2, c3, hrow, hg, Val.e, a1, a2, a3, a4, a5, a6, a7, a8, f2, e1, e2, e3]
        · rw [if_neg e] at b2 b3
          have hd : ¬ (k.k = c.key.k ∧ k.n = c.key.n ∧ k.s = c.key.s) := fun h => e (hke.1 h)
          generalize getL r.recs k = o at *
          have ne : (k.k == c.key.k && (k.n == c.key.n && (ByteArray.toList (bs k.s) == ByteArray.toList (bs c.key.s) && true))) = false := by
            by_cases e1 : k.k = c.key.k
            · by_cases e2 : k.n = c.key.n
              · have e3 : ¬ k.s = c.key.s := fun e3 => hd ⟨e1, e2, e3⟩
                simp [e1, e2, e3]
              · simp [e2]
            · simp [e1]
          cases hb : (getL r.recs c.key).isSome with
          | true =>
            rw [hb] at a8
            have f1 := f1 hb
            simp [m_L16_RelPuts, s1, s2, s3, c1, c2, c3, hrow, hg, Val.e, a1, a2, a3, a4, a5, a6, a7, a8, f1, b1, b2, b3, b4, ne]
          | false =>
            rw [hb] at a8
            have f2 := f2 hb
            simp [m_L16_RelPuts, s1, s2, s3, c1, c2, c3, hrow, hg, Val.e, a1, a2, a3, a4, a5, a6, a7, a8, f2, b1, b2, b3, b4, ne]
      · have c3' : c.right = false := by simpa using c3
        simp [m_L16_RelPuts, s1, s2, s3, c1, c2, c3']
    · have c2' : mayL r.recs = false := by simpa using c2
      simp [m_L16_RelPuts, s1, s2, c1, c2']
  · have c1' : smallT r = false := by simpa using c1
    simp [m_L16_RelPuts, s1, c1']

end Go.Proofs.Ytinnnhiaamjjlaa

set_option linter.unusedVariables false
set_option linter.unusedSimpArgs false
namespace Go.Proofs.Ytinnnhiaamjjlaa
open Go Go.Pu

theorem put_twice {l : List Rec} (hm : mayL l = true) {x y : Rec} (hx : x.right = true) (hy : y.right = true) (e : x.key = y.key) : putL (putL l x) y = putL l y := by
  have h1 := putL_may hm hx
  refine rel_ext (putL_may h1 hy) (putL_may hm hy) fun k => ?_
  rw [getL_put h1 hy, getL_put hm hy, getL_put hm hx]
  split
  · rfl
  · rename_i hk
    rw [if_neg (by rw [e]; exact hk)]

theorem put_swap {l : List Rec} (hm : mayL l = true) {x y : Rec} (hx : x.right = true) (hy : y.right = true) (e : x.key ≠ y.key) : putL (putL l x) y = putL (putL l y) x := by
  have h1 := putL_may hm hx
  have h2 := putL_may hm hy
  refine rel_ext (putL_may h1 hy) (putL_may h2 hx) fun k => ?_
  rw [getL_put h1 hy, getL_put h2 hx, getL_put hm hx, getL_put hm hy]
  by_cases a : k = y.key
  · by_cases b : k = x.key
    · exact absurd (b.symm.trans a) e
    · rw [if_pos a, if_neg b]
      rw [if_pos a]
  · rw [if_neg a]
    by_cases b : k = x.key
    · rw [if_pos b, if_pos b]
    · rw [if_neg b, if_neg b, if_neg a]

set_option maxHeartbeats 8000000 in
theorem relTwice_res {r : Rel} (hr : r.ok) {x y : Rec} (hx : x.ok) (hy : y.ok) (k t k2 t2 : Val) :
    (m_L16_RelTwice [.s (bs r.name), .l (r.recs.map Rec.e), .l (re x.row), .i x.tid, .i k.k, .i k.n, .s (bs k.s), .i t.k, .i t.n, .s (bs t.s), .l (re y.row), .i y.tid, .i k2.k, .i k2.n, .s (bs k2.s), .i t2.k, .i t2.n, .s (bs t2.s)]).res = some (0, [.b true]) := by
  have s1 := R16_Small_res hr
  have s2 := R16_May_res r.name r.recs hr.2
  have s3 := R16_Right_res x hx
  have s4 := R16_Right_res y hy
  by_cases c1 : smallT r = true
  · by_cases c2 : mayL r.recs = true
    · by_cases c3 : x.right = true
      · by_cases c4 : y.right = true
        · have hfew := small_few c1
          have hf2 : r.recs.length ≤ 1000000 := by omega
          have hrx := right_len c3
          have hry := right_len c4
          have hgx := hd_re hrx
          have hgy := hd_re hry
          have hkx : hd x.row = x.key := rfl
          have hky : hd y.row = y.key := rfl
          rw [hkx] at hgx
          rw [hky] at hgy
          have lx := putL_len c2 x
          have ly := putL_len c2 y
          have mx := putL_may c2 c3
          have my := putL_may c2 c4
          have okx := putL_ok hr.2 hf2 hx
          have oky := putL_ok hr.2 hf2 hy
          have a1 := rel_Put_res hr hf2 hx
          have a2 := rel_Put_res hr hf2 hy
          rw [putT, if_pos ⟨c2, c3⟩] at a1
          rw [putT, if_pos ⟨c2, c4⟩] at a2
          have a3 := rel_Put_res (r := ⟨r.name, putL r.recs x⟩) ⟨hr.1, okx⟩ (by show (putL r.recs x).length ≤ 1000000; omega) hy
          have a4 := rel_Put_res (r := ⟨r.name, putL r.recs y⟩) ⟨hr.1, oky⟩ (by show (putL r.recs y).length ≤ 1000000; omega) hx
          rw [putT, if_pos ⟨mx, c4⟩] at a3
          rw [putT, if_pos ⟨my, c3⟩] at a4
          dsimp only at a1 a2 a3 a4
          have okxy := putL_ok okx (by omega) hy
          have hke := val_ext (v := x.key) (w := y.key)
          by_cases e : x.key = y.key
          · obtain ⟨e1, e2, e3⟩ := hke.2 e
            rw [put_twice c2 c3 c4 e] at a3
            have b1 := same_self (s := r.name) oky
            generalize (putL r.recs x).map Rec.e = X at *
            generalize hY : (putL r.recs y).map Rec.e = Y at *
            simp [m_L16_RelTwice, s1, s2, s3, s4, c1, c2, c3, c4, hrx, hry, hgx, hgy, Val.e, a1, a2, a3, a4, b1, e1, e2, e3]
          · have hd : ¬ (x.key.k = y.key.k ∧ x.key.n = y.key.n ∧ x.key.s = y.key.s) := fun h => e (hke.1 h)
            have ne : (x.key.k == y.key.k && (x.key.n == y.key.n && (ByteArray.toList (bs x.key.s) == ByteArray.toList (bs y.key.s) && true))) = false := by
              by_cases e1 : x.key.k = y.key.k
              · by_cases e2 : x.key.n = y.key.n
                · have e3 : ¬ x.key.s = y.key.s := fun e3 => hd ⟨e1, e2, e3⟩
                  simp [e1, e2, e3]
                · simp [e2]
              · simp [e1]
            rw [put_swap c2 c3 c4 e] at a3 okxy
            have b1 := same_self (s := r.name) okxy
            generalize (putL r.recs x).map Rec.e = X at *
            generalize hY : (putL r.recs y).map Rec.e = Y at *
            generalize hZ : (putL (putL r.recs y) x).map Rec.e = Z at *
            simp [m_L16_RelTwice, s1, s2, s3, s4, c1, c2, c3, c4, hrx, hry, hgx, hgy, Val.e, a1, a2, a3, a4, b1, ne]
            exact fun a b c => absurd ⟨a, b, c⟩ hd
        · have c4' : y.right = false := by simpa using c4
          simp [m_L16_RelTwice, s1, s2, s3, s4, c1, c2, c3, c4']
      · have c3' : x.right = false := by simpa using c3
        simp [m_L16_RelTwice, s1, s2, s3, c1, c2, c3']
    · have c2' : mayL r.recs = false := by simpa using c2
      simp [m_L16_RelTwice, s1, s2, c1, c2']
  · have c1' : smallT r = false := by simpa using c1
    simp [m_L16_RelTwice, s1, c1']

/-! between keys -/

theorem at_ex {l : List Rec} (hl : okL l) (hm : mayL l = true) (k : Val) : ∃ p, At l k p := by
  obtain ⟨p, h, _⟩ := find_own_res [] hl hm k
  exact ⟨p, h⟩

theorem scan_at {l : List Rec} (hm : mayL l = true) {a b : Val} {p q : Nat} (h : At l a p) (g : At l b q) (hpq : p ≤ q) : scanL l a b = (l.drop p).take (q - p) := by
  rw [scanL, if_pos hm]
  exact filter_mid (btw a b) l p q hpq g.le fun i hi => h.btw g hi

theorem At.mono' {l : List Rec} {a b : Val} {p q : Nat} (h : At l a p) (g : At l b q) (hab : cmpV a b ≤ 0) : p ≤ q := by
  by_cases e : cmpV a b = 0
  · have := (cV.zero _ _).1 e
    subst this
    rw [h.uniq g]; exact Nat.le_refl _
  · exact h.mono g (by omega)

theorem scan_join {l : List Rec} (hl : okL l) (hm : mayL l = true) {a b c : Val} (hab : cmpV a b ≤ 0) (hbc : cmpV b c ≤ 0) : scanL l a b ++ scanL l b c = scanL l a c := by
  obtain ⟨p, hp⟩ := at_ex hl hm a
  obtain ⟨q, hq⟩ := at_ex hl hm b
  obtain ⟨s, hs⟩ := at_ex hl hm c
  have h1 := hp.mono' hq hab
  have h2 := hq.mono' hs hbc
  rw [scan_at hm hp hq h1, scan_at hm hq hs h2, scan_at hm hp hs (by omega)]
  have h3 : s - p = (q - p) + (s - q) := by omega
  have h4 : l.drop q = (l.drop p).drop (q - p) := by rw [List.drop_drop]; congr 1; omega
  rw [h3, List.take_add, h4]

/-! how many rows there are -/

theorem sumN_addC : ∀ (b : List Cnt) (r : List Val) (n : Int), sumN (addC b r n) = sumN b + n
  | [], r, n => by
    rw [addC]; unfold one1; split <;> simp_all [sumN]
  | c :: b, r, n => by
    have h1 := sumN_addC b r n
    have one : ∀ m : Int, sumN (one1 r m) = m := fun m => by unfold one1; split <;> simp_all [sumN]
    have app : ∀ a b : List Cnt, sumN (a ++ b) = sumN a + sumN b := fun a b => by simp [sumN]
    have cons : ∀ (a : Cnt) (b : List Cnt), sumN (a :: b) = a.n + sumN b := fun a b => by simp [sumN]
    unfold addC
    split
    · rw [cons, cons, h1]; omega
    · split
      · rw [app, one, cons]; omega
      · rw [app, one, cons]; omega

theorem sumN_sumB (l : List Cnt) : sumN (sumB l) = sumN l := by
  have key : ∀ (l b : List Cnt), sumN (l.foldl (fun b c => addC b c.row c.n) b) = sumN b + sumN l := by
    intro l
    induction l with
    | nil => intro b; simp [sumN]
    | cons c l ih =>
      intro b
      rw [List.foldl_cons, ih, sumN_addC]
      simp [sumN]; omega
  rw [sumB, key]
  simp [sumN]

theorem sumN_one (l : List (List Val)) : sumN (l.map oneC) = l.length := by
  induction l with
  | nil => rfl
  | cons r l ih =>
    have : sumN ((r :: l).map oneC) = 1 + sumN (l.map oneC) := by simp [sumN, oneC]
    rw [this, ih]; simp; omega

theorem bagT_sum {l : List Rec} (hm : mayL l = true) : sumN (bagT l) = l.length := by
  rw [bagT, if_pos hm, sumN_sumB, sumN_one, rowsT, List.length_map]

end Go.Proofs.Ytinnnhiaamjjlaa

set_option linter.unusedVariables false
set_option linter.unusedSimpArgs false
namespace Go.Proofs.Ytinnnhiaamjjlaa
open Go Go.Pu

theorem absN_addC' : ∀ (b : List Cnt) (r : List Val) (n : Int), absN (addC b r n) ≤ absN b + n.natAbs := by
  have one : ∀ (r : List Val) (n : Int), absN (one1 r n) ≤ n.natAbs := fun r n => by unfold one1; split <;> simp [absN]
  intro b r n
  induction b with
  | nil => rw [addC]; have := one r n; simp only [absN]; omega
  | cons c b ih =>
    rw [addC]
    split
    · simp only [absN]; omega
    · split
      · rw [absN_app]; have := one r (n + c.n); simp only [absN]; omega
      · rw [absN_app]; have := one r n; simp only [absN]; omega

theorem absN_sumB' (l : List Cnt) : absN (sumB l) ≤ absN l := by
  have fold : ∀ l b : List Cnt, absN (l.foldl (fun b c => addC b c.row c.n) b) ≤ absN b + absN l := by
    intro l
    induction l with
    | nil => intro b; simp [absN]
    | cons c l ih => intro b; rw [List.foldl_cons]; have h1 := ih (addC b c.row c.n); have h2 := absN_addC' b c.row c.n; simp only [absN]; omega
  have := fold l []
  have e : absN ([] : List Cnt) = 0 := rfl
  unfold sumB; omega

theorem sumN_abs (l : List Cnt) : (sumN l).natAbs ≤ absN l := by
  induction l with
  | nil => simp [sumN]
  | cons c l ih =>
    have : sumN (c :: l) = c.n + sumN l := by simp [sumN]
    rw [this]; simp only [absN]; omega

theorem absN_take' (l : List Cnt) (i : Nat) : absN (l.take i) ≤ absN l := by
  have h : absN l = absN (l.take i) + absN (l.drop i) := by rw [← absN_app, List.take_append_drop]
  omega

theorem bagT_abs {l : List Rec} (h : l.length ≤ 60) : absN (bagT l) ≤ 60 := by
  unfold bagT
  split
  · have := absN_sumB' ((rowsT l).map oneC)
    rw [one_abs, rowsT, List.length_map] at this
    exact Nat.le_trans this h
  · simp [absN]

theorem scans_loop (s : List UInt8) {l : List Rec} (hl : okL l) (hm : mayL l = true) (X Y : List (List PV)) (z : List Rec) (hz : ∀ d ∈ z, d ∈ l) (hzl : z.length ≤ 60) :
    lres rd_L16_RelScans_5_6 [.i 0, .s (bs s), .l (l.map Rec.e), .l X, .l Y, .l (z.map Rec.e)] = some (1, [.s (bs s), .l (l.map Rec.e), .l X, .l Y, .l (z.map Rec.e)]) := by
  have h := loop_acc (rd := rd_L16_RelScans_5_6) z.length (fun i => [.i (i : Nat), .s (bs s), .l (l.map Rec.e), .l X, .l Y, .l (z.map Rec.e)]) (some (1, [.s (bs s), .l (l.map Rec.e), .l X, .l Y, .l (z.map Rec.e)]))
    (lres_stop (by simp [rd_L16_RelScans_5_6])) (by
    intro i hi
    have hmem := hz z[i] (List.getElem_mem hi)
    have hr := right_len (mayL_all hm _ hmem)
    have hg := hd_re hr
    have hkey : hd z[i].row = z[i].key := rfl
    rw [hkey] at hg
    have hget := rel_Get_res s hl z[i].key
    rw [(getL_iff hm).2 ⟨hmem, rfl⟩] at hget
    simp only [tidO, rowO, Option.isSome_some] at hget
    have hs := one_self (hl.2 _ hmem)
    simp only [Rec.e] at hs
    have hw := w64_succ (i := i) (by omega)
    have e1 : List.take (i + 1 - i) (List.drop i (z.map Rec.e)) = [[PV.lst 28 (re z[i].row), pI z[i].tid]] := by
      rw [← List.map_drop, ← List.map_take, show i + 1 - i = 1 by omega, List.drop_eq_getElem_cons hi]
      rfl
    have e2 : (i : Int) ≤ ((i + 1 : Nat) : Int) := by omega
    have e3 : ((i + 1 : Nat) : Int) ≤ (z.length : Int) := by omega
    have e4 : ¬ z[i].row = [] := fun e => by rw [e] at hr; simp at hr
    have e5 : i + (i + 1 - i) ≤ z.length := by omega
    simp only [rd_L16_RelScans_5_6, rt_test, rt_next, rt_stop, ln_map, el_map _ _ hi, List.length_map, Int.toNat_natCast, Int.ofNat_lt, hi, decide_true, if_true, inR_cast, Rec.e, cL_0, ln_re, hw, e1]
    have e6 : ((z[i].row.length : Int) == 0) = false := by
      have : (z[i].row.length : Int) ≠ 0 := by omega
      simpa using this
    have e7 : inR 0 (z[i].row.length : Int) = true := by simp [inR, hr]
    have e8 : ((0 : Int) ≤ (i : Int) ∧ (i : Int) ≤ ((i + 1 : Nat) : Int) ∧ ((i + 1 : Nat) : Int) ≤ (z.length : Int)) := ⟨by omega, by omega, by omega⟩
    have e9 : (re z[i].row).getD 0 [] = z[i].key.e := by rw [List.getD]; exact hg
    have e10 : (i : Int) ≤ (i : Int) + 1 := by omega
    have e11 : (i : Int) + 1 ≤ (z.length : Int) := by omega
    have e12 : i + 1 ≤ z.length := by omega
    simp only [e6, e7, e9, Val.e, Bool.false_eq_true, if_false, if_true]
    simp [hget, hs, e5, e10, e11, e12])
  simp only [Int.natCast_zero] at h
  exact h

end Go.Proofs.Ytinnnhiaamjjlaa

set_option linter.unusedVariables false
set_option linter.unusedSimpArgs false
namespace Go.Proofs.Ytinnnhiaamjjlaa
open Go Go.Pu

theorem sums_loop (s : List UInt8) (R X Y Z : List (List PV)) (g : List Cnt) (hg : absN g ≤ 60) (hl : g.length ≤ 1000000) :
    lres rd_L16_RelScans_5_16 [.i 0, .i 0, .s (bs s), .l R, .l X, .l Y, .l Z, .l (g.map Cnt.e)] = some (0, [.i (sumN g), .s (bs s), .l R, .l X, .l Y, .l Z]) := by
  have h := loop_acc (rd := rd_L16_RelScans_5_16) g.length (fun i => [.i (sumN (g.take i)), .i (i : Nat), .s (bs s), .l R, .l X, .l Y, .l Z, .l (g.map Cnt.e)]) (some (0, [.i (sumN g), .s (bs s), .l R, .l X, .l Y, .l Z]))
    (lres_stop (by simp [rd_L16_RelScans_5_16])) (by
    intro i hi
    have h1 := sumN_abs (g.take (i + 1))
    have h2 := absN_take' g (i + 1)
    have e : sumN (g.take (i + 1)) = sumN (g.take i) + g[i].n := by
      have app : ∀ a b : List Cnt, sumN (a ++ b) = sumN a + sumN b := fun a b => by simp [sumN]
      rw [take_succ hi, app]
      simp [sumN]
    rw [e] at h1 ⊢
    have hw : w64 (sumN (g.take i) + g[i].n) = sumN (g.take i) + g[i].n := w64_eq (by omega) (by omega)
    generalize sumN (g.take i) = t at *
    have hn : cI (Cnt.e g[i]) 1 = g[i].n := rfl
    simp [rd_L16_RelScans_5_16, hi, hn, hw, el_map _ _ hi, w64_succ (i := i) (by omega)])
  simp only [Int.natCast_zero, List.take_zero] at h
  exact h

set_option maxHeartbeats 8000000 in
theorem relScans_res {r : Rel} (hr : r.ok) (a b c : Val) :
    (m_L16_RelScans [.s (bs r.name), .l (r.recs.map Rec.e), .i a.k, .i a.n, .s (bs a.s), .i b.k, .i b.n, .s (bs b.s), .i c.k, .i c.n, .s (bs c.s)]).res = some (0, [.b true]) := by
  have s1 := R16_Small_res hr
  have s2 := R16_May_res r.name r.recs hr.2
  have s3 := R01_Compare_res a b
  have s4 := R01_Compare_res b c
  by_cases c1 : smallT r = true
  · by_cases c2 : mayL r.recs = true
    · by_cases c3 : 0 < cmpV a b
      · simp [m_L16_RelScans, s1, s2, s3, c1, c2, c3]
      · by_cases c4 : 0 < cmpV b c
        · simp [m_L16_RelScans, s1, s2, s3, s4, c1, c2, c3, c4]
        · have hfew := small_few c1
          have hf2 : r.recs.length ≤ 1000000 := by omega
          have a1 := rel_Scan_res r.name hr.2 a b
          have a2 := rel_Scan_res r.name hr.2 b c
          have a3 := rel_Scan_res r.name hr.2 a c
          have hj := scan_join hr.2 c2 (a := a) (b := b) (c := c) (by omega) (by omega)
          have sub : ∀ x y : Val, (scanL r.recs x y).length ≤ 60 := fun x y => by
            have := (scanL_sub r.recs x y).length_le
            omega
          have hmem : ∀ d ∈ scanL r.recs a c, d ∈ r.recs := fun d hd => (scanL_sub r.recs a c).subset hd
          have a4 := scans_loop r.name hr.2 c2 ((scanL r.recs a b).map Rec.e) ((scanL r.recs b c).map Rec.e) (scanL r.recs a c) hmem (sub a c)
          have a5 := rel_Bag_res r.name hr.2 hf2
          have a6 := sums_loop r.name (r.recs.map Rec.e) ((scanL r.recs a b).map Rec.e) ((scanL r.recs b c).map Rec.e) ((scanL r.recs a c).map Rec.e) (bagT r.recs) (bagT_abs hfew) (by
            rw [bagT, if_pos c2]
            have := sumB_len ((rowsT r.recs).map oneC)
            have h5 : ((rowsT r.recs).map oneC).length = r.recs.length := by simp [rowsT]
            omega)
          rw [bagT_sum c2] at a6
          have a7 := R16_SameRecs_res (scanL_ok hr.2 a c) (scanL_ok hr.2 a c)
          simp only [decide_true] at a7
          have l1 := sub a b
          have l2 := sub b c
          rw [← hj, List.map_append] at a3 a4 a6 a7
          generalize hX : scanL r.recs a b = X at *
          generalize hY : scanL r.recs b c = Y at *
          have b1 : X.length * 32 ≤ 140737488355328 := by omega
          have b2 : (X.length + Y.length) * 32 ≤ 140737488355328 := by omega
          generalize (bagT r.recs).map Cnt.e = W at *
          simp [m_L16_RelScans, s1, s2, s3, s4, c1, c2, c3, c4, a1, a2, a3, a4, a5, a6, a7, b1, b2]
    · have c2' : mayL r.recs = false := by simpa using c2
      simp [m_L16_RelScans, s1, s2, c1, c2']
  · have c1' : smallT r = false := by simpa using c1
    simp [m_L16_RelScans, s1, c1']

/-! many -/

def kM (i s : Nat) : Val := ⟨2, ((i * s % 61 : Nat) : Int), []⟩
def rM (i s : Nat) : Rec := ⟨[kM i s], ((i + 1 : Nat) : Int)⟩
def tM (s : Nat) : Nat → List Rec
  | 0 => []
  | n + 1 => putL (tM s n) (rM n s)

theorem kM_may (i s : Nat) : mayV (kM i s) = true := by
  unfold kM mayV
  rfl

theorem rM_right (i s : Nat) : (rM i s).right = true := by
  have h1 : mayR [kM i s] = true := by simp [mayR, kM_may]
  have h2 : (rM i s).key = kM i s := rfl
  simp only [Rec.right, h2, Bool.and_eq_true]
  refine ⟨⟨⟨h1, by simp [rM]⟩, by simp [kM]⟩, ?_⟩
  have : (0 : Int) ≤ ((i + 1 : Nat) : Int) := by omega
  exact decide_eq_true this

theorem rM_ok (i s : Nat) (hi : i ≤ 100) : (rM i s).ok := by
  refine ⟨⟨by simp [rM], fun v hv => ?_⟩, ?_⟩
  · have : v = kM i s := by simpa [rM] using hv
    subst this
    have := Nat.mod_lt (i * s) (show 0 < 61 by decide)
    refine ⟨by simp [kM, i64], ?_, by simp [kM, big]⟩
    simp only [kM, i64]; omega
  · simp only [rM, i64]; omega

theorem tM_may (s : Nat) : ∀ n, mayL (tM s n) = true
  | 0 => rfl
  | n + 1 => putL_may (tM_may s n) (rM_right n s)

theorem tM_ok (s : Nat) : ∀ n, n ≤ 60 → okL (tM s n) ∧ (tM s n).length ≤ n
  | 0, _ => ⟨okL_nil, Nat.le_refl _⟩
  | n + 1, h => by
    obtain ⟨h1, h2⟩ := tM_ok s n (by omega)
    have h3 := putL_len (tM_may s n) (rM n s)
    exact ⟨putL_ok h1 (by omega) (rM_ok n s (by omega)), by simp only [tM]; omega⟩

theorem tM_get (s : Nat) (k : Val) : ∀ n, (∀ i, i < n → kM i s ≠ k) → getL (tM s n) k = none
  | 0, _ => rfl
  | n + 1, h => by
    have e : (rM n s).key = kM n s := rfl
    simp only [tM]
    rw [getL_put (tM_may s n) (rM_right n s), e, if_neg fun h' => h n (by omega) h'.symm]
    exact tM_get s k n fun i hi => h i (by omega)

theorem prime61 : ∀ a < 61, ∀ b < 61, a ≠ 0 → b ≠ 0 → a * b % 61 ≠ 0 := by decide +kernel

theorem kM_inj {i j s : Nat} (hi : i < j) (hj : j < 61) (hs : s % 61 ≠ 0) : kM i s ≠ kM j s := by
  intro e
  have e1 : ((i * s % 61 : Nat) : Int) = ((j * s % 61 : Nat) : Int) := by
    have := congrArg Val.n e
    exact this
  have e2 : i * s % 61 = j * s % 61 := by omega
  have h1 := prime61 (j - i) (by omega) (s % 61) (Nat.mod_lt _ (by decide)) (by omega) hs
  apply h1
  have h2 : (j - i) * (s % 61) % 61 = (j - i) * s % 61 := by rw [Nat.mul_mod, Nat.mod_mod, ← Nat.mul_mod]
  rw [h2, Nat.sub_mul]
  have h3 : i * s ≤ j * s := Nat.mul_le_mul_right _ (by omega)
  omega

theorem tM_len (s : Nat) (hs : s % 61 ≠ 0) : ∀ n, n ≤ 60 → (tM s n).length = n
  | 0, _ => rfl
  | n + 1, h => by
    have h1 := tM_len s hs n (by omega)
    have hn : getL (tM s n) (rM n s).key = none := tM_get s _ n fun i hi => kM_inj hi (by omega) hs
    obtain ⟨ho, _⟩ := tM_ok s n (by omega)
    obtain ⟨p, hp⟩ := at_ex ho (tM_may s n) (rM n s).key
    have hno : ¬ ∃ hp : p < (tM s n).length, ((tM s n)[p]).key = (rM n s).key := by
      rintro ⟨h2, h3⟩
      rw [getL_none (tM_may s n)] at hn
      exact hn _ (List.getElem_mem h2) h3
    simp only [tM]
    rw [put_none (tM_may s n) hp hno]
    have := hp.le
    simp only [List.length_append, List.length_cons, List.length_take, List.length_drop]
    omega

/-- what is left when so many were cut -/
def lM (s n : Nat) : Nat → List Rec
  | 0 => tM s n
  | i + 1 => (lM s n i).filter (notK (kM i s))

theorem lM_may (s n : Nat) : ∀ i, mayL (lM s n i) = true
  | 0 => tM_may s n
  | i + 1 => mayL_filter (lM_may s n i) _

theorem lM_sub (s n : Nat) : ∀ i, (lM s n i).Sublist (tM s n)
  | 0 => List.Sublist.refl _
  | i + 1 => List.filter_sublist.trans (lM_sub s n i)

theorem lM_key (s n : Nat) : ∀ i, ∀ c ∈ lM s n i, ∀ j, j < i → c.key ≠ kM j s
  | 0, _, _, j, hj => by omega
  | i + 1, c, hc, j, hj => by
    obtain ⟨h1, h2⟩ := List.mem_filter.1 hc
    by_cases e : j = i
    · subst e
      intro h
      simp [notK, h] at h2
    · exact lM_key s n i c h1 j (by omega)

theorem tM_key (s : Nat) : ∀ n, ∀ c ∈ tM s n, ∃ j, j < n ∧ c.key = kM j s
  | 0, c, hc => by cases hc
  | n + 1, c, hc => by
    simp only [tM, putL] at hc
    rcases List.mem_append.1 hc with h | h
    · obtain ⟨j, h1, h2⟩ := tM_key s n c (List.mem_filter.1 h).1
      exact ⟨j, by omega, h2⟩
    · rcases List.mem_cons.1 h with rfl | h
      · exact ⟨n, by omega, rfl⟩
      · obtain ⟨j, h1, h2⟩ := tM_key s n c (List.mem_filter.1 h).1
        exact ⟨j, by omega, h2⟩

theorem lM_none (s n : Nat) : lM s n n = [] := by
  rw [List.eq_nil_iff_forall_not_mem]
  intro c hc
  obtain ⟨j, h1, h2⟩ := tM_key s n c ((lM_sub s n n).subset hc)
  exact lM_key s n n c hc j h1 h2

theorem mod61 {i s : Nat} (hi : i ≤ 60) (hs : s ≤ 1000) : Int.tmod (w64 ((i : Int) * (s : Int))) 61 = ((i * s % 61 : Nat) : Int) := by
  have h := Nat.mul_le_mul hi hs
  have e : (i : Int) * (s : Int) = ((i * s : Nat) : Int) := by simp
  rw [e, w64_eq (by omega) (by omega)]
  rfl

set_option maxHeartbeats 4000000 in
theorem put_many {n s : Nat} (hn : n ≤ 60) (hs : s ≤ 1000) : lres rd_L16_RelMany_7_5 [.i n, .i s, .i 0, .s (bs []), .l []] = some (0, [.i n, .i s, .s (bs []), .l ((tM s n).map Rec.e)]) := by
  have h := loop_acc (rd := rd_L16_RelMany_7_5) n (fun i => [.i n, .i s, .i (i : Nat), .s (bs []), .l ((tM s i).map Rec.e)]) (some (0, [.i n, .i s, .s (bs []), .l ((tM s n).map Rec.e)]))
    (lres_stop (by simp [rd_L16_RelMany_7_5])) (by
    intro i hi
    obtain ⟨ho, hl⟩ := tM_ok s i (by omega)
    have hp := rel_Put_res (r := ⟨[], tM s i⟩) ⟨by simp, ho⟩ (by show (tM s i).length ≤ 1000000; omega) (rM_ok i s (by omega))
    rw [putT, if_pos ⟨tM_may s i, rM_right i s⟩] at hp
    have e1 : re (rM i s).row = [[pI 2, pI ((i * s % 61 : Nat) : Int), pS (bs [])]] := rfl
    have e2 : (rM i s).tid = ((i + 1 : Nat) : Int) := rfl
    have e3 : putL (tM s i) (rM i s) = tM s (i + 1) := rfl
    rw [e1, e2, e3] at hp
    have hw := w64_succ (i := i) (by omega)
    have hm := mod61 (i := i) (s := s) (by omega) hs
    simp only [rd_L16_RelMany_7_5, hm, hw, emp_bs]
    dsimp only at hp
    generalize (tM s i).map Rec.e = T at *
    generalize (tM s (i + 1)).map Rec.e = T' at *
    generalize ((i * s % 61 : Nat) : Int) = q at *
    generalize ((i + 1 : Nat) : Int) = j at *
    simp [hp, hi])
  have e0 : (tM s 0).map Rec.e = [] := rfl
  simp only [Int.natCast_zero, e0] at h
  exact h

set_option maxHeartbeats 4000000 in
theorem cut_many {n s : Nat} (hn : n ≤ 60) (hs : s ≤ 1000) : lres rd_L16_RelMany_7_11 [.i n, .i s, .i 0, .s (bs []), .l ((tM s n).map Rec.e)] = some (0, [.s (bs []), .l []]) := by
  have h := loop_acc (rd := rd_L16_RelMany_7_11) n (fun i => [.i n, .i s, .i (i : Nat), .s (bs []), .l ((lM s n i).map Rec.e)]) (some (0, [.s (bs []), .l []]))
    (lres_stop (by simp [rd_L16_RelMany_7_11, lM_none])) (by
    intro i hi
    obtain ⟨ho, hl⟩ := tM_ok s n hn
    have hsub := lM_sub s n i
    have ho2 := okL_sub ho hsub
    have hl2 := hsub.length_le
    have hc := rel_Cut_res (r := ⟨[], lM s n i⟩) ⟨by simp, ho2⟩ (by show (lM s n i).length ≤ 1000000; omega) (kM i s)
    have e1 : (kM i s).k = 2 := rfl
    have e2 : (kM i s).n = ((i * s % 61 : Nat) : Int) := rfl
    have e3 : (kM i s).s = [] := rfl
    rw [e1, e2, e3] at hc
    dsimp only at hc
    have hw := w64_succ (i := i) (by omega)
    have hm := mod61 (i := i) (s := s) (by omega) hs
    cases hg : getL (lM s n i) (kM i s) with
    | none =>
      have e4 : cutT ⟨[], lM s n i⟩ (kM i s) = none := by simp only [cutT, hg]
      have e5 : lM s n (i + 1) = lM s n i := cut_self (lM_may s n i) hg
      rw [e4] at hc
      rw [e5]
      simp only [rd_L16_RelMany_7_11, hm, hw, emp_bs]
      generalize (lM s n i).map Rec.e = T at *
      generalize ((i * s % 61 : Nat) : Int) = q at *
      generalize ((i + 1 : Nat) : Int) = j at *
      simp only [nameO, recsO, Option.isSome_none, List.map_nil] at hc
      simp [hc, hi]
    | some c =>
      have e4 : cutT ⟨[], lM s n i⟩ (kM i s) = some ⟨[], lM s n (i + 1)⟩ := by simp only [cutT, hg]; rfl
      rw [e4] at hc
      simp only [nameO, recsO, Option.isSome_some] at hc
      simp only [rd_L16_RelMany_7_11, hm, hw, emp_bs]
      generalize (lM s n i).map Rec.e = T at *
      generalize (lM s n (i + 1)).map Rec.e = T' at *
      generalize ((i * s % 61 : Nat) : Int) = q at *
      generalize ((i + 1 : Nat) : Int) = j at *
      simp [hc, hi])
  have e0 : (lM s n 0).map Rec.e = (tM s n).map Rec.e := rfl
  simp only [Int.natCast_zero, e0] at h
  exact h

theorem relMany_res (n s : Int) : (m_L16_RelMany [.i n, .i s]).res = some (0, [.b true]) := by
  by_cases c1 : n < 0
  · simp [m_L16_RelMany, c1]
  · by_cases c2 : 60 < n
    · simp [m_L16_RelMany, c1, c2]
    · by_cases c3 : s < 1
      · simp [m_L16_RelMany, c1, c2, c3]
      · by_cases c4 : 1000 < s
        · simp [m_L16_RelMany, c1, c2, c3, c4]
        · obtain ⟨n, rfl⟩ : ∃ k : Nat, n = k := ⟨n.toNat, by omega⟩
          obtain ⟨s, rfl⟩ : ∃ k : Nat, s = k := ⟨s.toNat, by omega⟩
          have hn : n ≤ 60 := by omega
          have hs : s ≤ 1000 := by omega
          have h1 := put_many hn hs
          have h2 := cut_many hn hs
          obtain ⟨ho, hl⟩ := tM_ok s n hn
          have h3 := rel_May_res [] (tM s n) ho
          rw [tM_may] at h3
          have e1 : Int.tmod (s : Int) 61 = ((s % 61 : Nat) : Int) := rfl
          by_cases c5 : s % 61 = 0
          · simp [m_L16_RelMany, c1, c2, c3, c4, emp_bs, h1, h2, h3, e1, c5]
          · have h4 := tM_len s c5 n hn
            have c6 : ¬ ((s % 61 : Nat) : Int) = 0 := by omega
            simp [m_L16_RelMany, c1, c2, c3, c4, emp_bs, h1, h2, h3, e1, c6, h4]

end Go.Proofs.Ytinnnhiaamjjlaa

set_option linter.unusedVariables false
set_option linter.unusedSimpArgs false
namespace Go.Proofs.Ytinnnhiaamjjlaa
open Go Go.Pu

set_option maxRecDepth 100000 in
theorem arg_put {x : PV} (h : ArgGd Try.prog 30 x) : ∃ (c : Rec) (k t : Val), x = .agg [.lst 28 (re c.row), pI c.tid, pI k.k, pI k.n, pS (bs k.s), pI t.k, pI t.n, pS (bs t.s)] ∧ c.ok := by
  have e : ArgGd Try.prog 30 x = ∃ xs, x = .agg xs ∧ Gds Try.prog [.sl 28, .int .i64, .int .i64, .int .i64, .str, .int .i64, .int .i64, .str] xs := by kernel_rfl
  rw [e] at h
  obtain ⟨xs, rfl, hg⟩ := h
  obtain ⟨hl, hg⟩ := gds_cells hg
  match xs, hl, hg with
  | [a, b, c, d, f, g, i, j], _, hg =>
    obtain ⟨r, rfl, hr⟩ := gd_row (hg 0 (by decide))
    obtain ⟨n, rfl, hn⟩ := gd_int (hg 1 (by decide))
    obtain ⟨v, rfl, rfl, rfl, hv⟩ := val_cells (hg 2 (by decide)) (hg 3 (by decide)) (hg 4 (by decide))
    obtain ⟨w, rfl, rfl, rfl, hw⟩ := val_cells (hg 5 (by decide)) (hg 6 (by decide)) (hg 7 (by decide))
    exact ⟨⟨r, n⟩, v, w, rfl, hr, hn⟩

set_option maxRecDepth 100000 in
theorem arg_keys {x : PV} (h : ArgGd Try.prog 51 x) : ∃ a b c : Val, x = .agg [pI a.k, pI a.n, pS (bs a.s), pI b.k, pI b.n, pS (bs b.s), pI c.k, pI c.n, pS (bs c.s)] := by
  have e : ArgGd Try.prog 51 x = ∃ xs, x = .agg xs ∧ Gds Try.prog [.int .i64, .int .i64, .str, .int .i64, .int .i64, .str, .int .i64, .int .i64, .str] xs := by kernel_rfl
  rw [e] at h
  obtain ⟨xs, rfl, hg⟩ := h
  obtain ⟨hl, hg⟩ := gds_cells hg
  match xs, hl, hg with
  | [a, b, c, d, f, g, i, j, k], _, hg =>
    obtain ⟨u, rfl, rfl, rfl, hu⟩ := val_cells (hg 0 (by decide)) (hg 1 (by decide)) (hg 2 (by decide))
    obtain ⟨v, rfl, rfl, rfl, hv⟩ := val_cells (hg 3 (by decide)) (hg 4 (by decide)) (hg 5 (by decide))
    obtain ⟨w, rfl, rfl, rfl, hw⟩ := val_cells (hg 6 (by decide)) (hg 7 (by decide)) (hg 8 (by decide))
    exact ⟨u, v, w, rfl⟩

end Go.Proofs.Ytinnnhiaamjjlaa
