/- Texts of this seat, one behind the other. -/
import Derived.Test.YtkaljlpbmbfpgaaGreatDoorVX
import Derived.Test.YtkaljlpbmbfpgaaGreatDoorGX
import Derived.KernelRfl
set_option linter.unusedVariables false
set_option linter.unusedSimpArgs false
namespace Go.Proofs.YtkaljlpbmbfpgaaGreatDoor
open Go Go.Pu

/-! texts -/

theorem mayR_okT {r : List Val} (hr : okR r) (h : mayR r = true) : okT r := by
 unfold mayR at h
 rw [Bool.and_eq_true, decide_eq_true_eq, List.all_eq_true] at h
 refine ⟨hr.2, by omega, fun v hv => ?_⟩
 have := h.2 v hv
 unfold mayV at this
 by_cases k0 : v.k = 0
 ·simp [k0] at this; rw [this.2]; simp
 by_cases k1 : v.k = 1
 ·simp [k1] at this; rw [this.2]; simp
 by_cases k2 : v.k = 2
 ·simp [k2] at this; rw [this]; simp
 ·simp [k0, k1, k2] at this; omega

theorem txtR_len {r : List Val} (h : okT r) : (txtR r).length ≤ 40006402 := by
 have := okT_len h
 have s1 : (txtR r).length = (bodyT r).length + 2 := by simp [txtR]
 omega

theorem entT_len {c : Cnt} (h : okT c.row) (hn : i64 c.n) : (entT c).length ≤ 40006430 := by
 have h1 := txtR_len h
 have h2 := itoa_len hn
 unfold entT cntT
 rw [List.length_append]
 split
 ·simp only [List.length_nil]; omega
 ·rw [List.length_cons]; omega

theorem tlC_len : ∀ {b : List Cnt}, (∀ c ∈ b, (entT c).length ≤ 40006430) → (tlC b).length ≤ b.length * 40006431
 | [], _ => by simp [tlC]
 | c :: b, h => by
  have h1 := tlC_len (b := b) fun d hd => h d (List.mem_cons_of_mem _ hd)
  have h2 := h c (List.mem_cons_self ..)
  have e : tlC (c :: b) = 32 :: (entT c ++ tlC b) := rfl
  rw [e, List.length_cons, List.length_append, List.length_cons]; omega

theorem txtB_len {b : List Cnt} (h : ∀ c ∈ b, (entT c).length ≤ 40006430) : (txtB b).length ≤ b.length * 40006431 := by
 cases b with
 | nil => simp [txtB]
 | cons c b =>
  have h1 := tlC_len (b := b) fun d hd => h d (List.mem_cons_of_mem _ hd)
  have h2 := h c (List.mem_cons_self ..)
  unfold txtB
  rw [List.length_append, List.length_cons]; omega

end Go.Proofs.YtkaljlpbmbfpgaaGreatDoor

set_option linter.unusedVariables false
set_option linter.unusedSimpArgs false
namespace Go.Proofs.YtkaljlpbmbfpgaaGreatDoor
open Go Go.Pu

theorem one1_e (r : List Val) (n : Int) (h : n ≠ 0) : (one1 r n).map Cnt.e = [[PV.lst 39 (re r), pI n]] := by
 unfold one1; rw [if_pos h]; rfl
theorem one1_0 (r : List Val) : one1 r 0 = [] := by unfold one1; rw [if_neg (by simp)]

theorem room2 {α : Type} (l : List α) (x : α) {k : Nat} (h : l.length ≤ k) (hk : k ≤ 4398046511102) : ((l ++ [x]).length + 1) * 32 ≤ 140737488355328 := by
 have : (l ++ [x]).length = l.length + 1 := by simp
 omega

/-- behind the place where the row was laid -/
theorem add_laid (b : List Cnt) (hb : okB b) (r : List Val) (n : Int) : ∀ m i (o : List Cnt), b.length - i = m → i ≤ b.length → o.length ≤ i + 1 → b.length ≤ 4398046511102 → (∀ c ∈ b.drop i, c.row ≠ r) →
  lres rd_zan_36_4 [.l (b.map Cnt.e), .l (re r), .i n, .b true, .i (i : Nat), .l (o.map Cnt.e)] = some (0, [.l (re r), .i n, .b true, .l ((o ++ b.drop i).map Cnt.e)]) := by
 intro m
 induction m with
 | zero =>
  intro i o h1 h2 h3 h4 h5
  have : i = b.length := by omega
  subst this
  refine lres_stop ?_
  simp [rd_zan_36_4]
 | succ m ih =>
  intro i o h1 h2 h3 h4 h5
  have h : i < b.length := by omega
  have hd := List.drop_eq_getElem_cons h
  have hc := R02_Compare_res b[i].row r (hb.2 _ (List.getElem_mem h)).1.1
  have hne : ¬ cmpR b[i].row r = 0 := fun e => h5 b[i] (by rw [hd]; exact List.mem_cons_self ..) ((cR.zero _ _).1 e)
  have hne' : (cmpR b[i].row r != 0) = true := by simpa using hne
  have e1 : ((o.map Cnt.e).length + 1) * 32 ≤ 140737488355328 := by rw [List.length_map]; omega
  have hr : (rd_zan_36_4 [.l (b.map Cnt.e), .l (re r), .i n, .b true, .i (i : Nat), .l (o.map Cnt.e)]).val = some (.next [.l (b.map Cnt.e), .l (re r), .i n, .b true, .i ((i + 1 : Nat) : Int), .l ((o ++ [b[i]]).map Cnt.e)]) := by
   rw [map_app_e, List.map_cons, List.map_nil, show b[i].e = [PV.lst 39 (re b[i].row), pI b[i].n] from rfl]
   simp only [rd_zan_36_4, rt_test, rt_next, rt_stop, el_map _ _ h, row_e, n_e, ln_map, inR_cast, Int.ofNat_lt, h, decide_true, if_true, hc, ok_some', out_some, uI_0, beq_self_eq_true, hne', e1, Bool.not_true, Bool.false_eq_true, if_false, w64_succ (i := i) (by omega)]
   split <;> rfl
  rw [lres_next hr, ih (i + 1) (o ++ [b[i]]) (by omega) (by omega) (by simp; omega) h4 (fun c hc => h5 c (by rw [hd]; exact List.mem_cons_of_mem _ hc)), hd, List.append_assoc]
  rfl

theorem add_loop (b : List Cnt) (hb : okB b) (hlen : b.length ≤ 4398046511102) (hr0 : rising b) (r : List Val) (n : Int) (hn : n.natAbs ≤ 2305843009213693952) (hbn : ∀ c ∈ b, c.n.natAbs ≤ 2305843009213693952) : ∀ m i (o : List Cnt), b.length - i = m → i ≤ b.length → o.length ≤ i →
  ∃ lb o', lres rd_zan_36_4 [.l (b.map Cnt.e), .l (re r), .i n, .b false, .i (i : Nat), .l (o.map Cnt.e)] = some (0, [.l (re r), .i n, .b lb, .l (o'.map Cnt.e)]) ∧
   (lb = true → o' = o ++ addC (b.drop i) r n) ∧ (lb = false → o' = o ++ b.drop i ∧ addC (b.drop i) r n = b.drop i ++ one1 r n ∧ o'.length ≤ b.length) := by
 intro m
 induction m with
 | zero =>
  intro i o h1 h2 h3
  have : i = b.length := by omega
  subst this
  refine ⟨false, o, lres_stop ?_, fun h => (by cases h), fun _ => ⟨by simp, by simp [addC], by omega⟩⟩
  simp [rd_zan_36_4]
 | succ m ih =>
  intro i o h1 h2 h3
  have h : i < b.length := by omega
  have hd := List.drop_eq_getElem_cons h
  have hm := List.getElem_mem h
  have hc := R02_Compare_res b[i].row r (hb.2 _ hm).1.1
  have e1 : ((o.map Cnt.e).length + 1) * 32 ≤ 140737488355328 := by rw [List.length_map]; omega
  have e2 : ∀ x : List PV, ((o.map Cnt.e ++ [x]).length + 1) * 32 ≤ 140737488355328 := fun x => room2 _ x (k := i) (by rw [List.length_map]; exact h3) (by omega)
  have hrest : ∀ c ∈ b.drop (i + 1), cmpR b[i].row c.row < 0 := by
   have := hr0.sublist (List.drop_sublist i b)
   rw [hd] at this
   exact (List.pairwise_cons.1 this).1
  have hbi : b[i].e = [PV.lst 39 (re b[i].row), pI b[i].n] := rfl
  rcases cR.rng b[i].row r with hx | hx | hx
  ·-- ahead
   have hr : (rd_zan_36_4 [.l (b.map Cnt.e), .l (re r), .i n, .b false, .i (i : Nat), .l (o.map Cnt.e)]).val = some (.next [.l (b.map Cnt.e), .l (re r), .i n, .b false, .i ((i + 1 : Nat) : Int), .l ((o ++ [b[i]]).map Cnt.e)]) := by
    rw [map_app_e, List.map_cons, List.map_nil, hbi]
    simp only [rd_zan_36_4, rt_test, rt_next, rt_stop, el_map _ _ h, row_e, n_e, ln_map, inR_cast, Int.ofNat_lt, h, decide_true, if_true, hc, hx, ok_some', out_some, uI_0, beq_self_eq_true, e1, w64_succ (i := i) (by omega)]
    rfl
   obtain ⟨lb, o', k1, k2, k3⟩ := ih (i + 1) (o ++ [b[i]]) (by omega) (by omega) (by simp; omega)
   refine ⟨lb, o', by rw [lres_next hr, k1], fun hl => ?_, fun hl => ?_⟩
   ·rw [k2 hl, hd, addC, if_pos (by omega), List.append_assoc]; rfl
   ·obtain ⟨q1, q2, q3⟩ := k3 hl
    refine ⟨by rw [q1, hd, List.append_assoc]; rfl, ?_, q3⟩
    rw [hd, addC, if_pos (by omega), q2]; rfl
  ·-- the row itself
   have hxe := (cR.zero _ _).1 hx
   have hb1 := hbn _ hm
   have w : w64 (n + b[i].n) = n + b[i].n := w64_eq (by omega) (by omega)
   have hadd : addC (b.drop i) r n = one1 r (n + b[i].n) ++ b.drop (i + 1) := by rw [hd, addC, if_neg (by omega), if_pos hx]
   have hr : (rd_zan_36_4 [.l (b.map Cnt.e), .l (re r), .i n, .b false, .i (i : Nat), .l (o.map Cnt.e)]).val = some (.next [.l (b.map Cnt.e), .l (re r), .i n, .b true, .i ((i + 1 : Nat) : Int), .l ((o ++ one1 r (n + b[i].n)).map Cnt.e)]) := by
    rw [map_app_e]
    by_cases hz : n + b[i].n = 0
    ·rw [hz, one1_0]
     simp only [rd_zan_36_4, rt_test, rt_next, rt_stop, el_map _ _ h, row_e, n_e, ln_map, inR_cast, Int.ofNat_lt, h, decide_true, if_true, hc, hx, ok_some', out_some, uI_0, beq_self_eq_true, e1, w, hz, bne_self_eq_false, Bool.false_eq_true, if_false, Bool.not_false, w64_succ (i := i) (by omega), List.map_nil, List.append_nil]
     rfl
    ·have hz' : (n + b[i].n != 0) = true := by simpa using hz
     rw [one1_e _ _ hz]
     simp only [rd_zan_36_4, rt_test, rt_next, rt_stop, el_map _ _ h, row_e, n_e, ln_map, inR_cast, Int.ofNat_lt, h, decide_true, if_true, hc, hx, ok_some', out_some, uI_0, beq_self_eq_true, e1, w, hz', bne_self_eq_false, Bool.false_eq_true, if_false, Bool.not_false, w64_succ (i := i) (by omega)]
     rfl
   have ho : (o ++ one1 r (n + b[i].n)).length ≤ i + 1 + 1 := by
    rw [List.length_append]; unfold one1; split <;> simp <;> omega
   have hl := add_laid b hb r n (b.length - (i + 1)) (i + 1) (o ++ one1 r (n + b[i].n)) rfl (by omega) ho hlen (fun c hc => by
    have := lt_ne (hrest c hc)
    rw [hxe] at this
    exact fun e => this e.symm)
   exact ⟨true, o ++ one1 r (n + b[i].n) ++ b.drop (i + 1), by rw [lres_next hr, hl], fun _ => by rw [hadd, List.append_assoc], fun h => (by cases h)⟩
  ·-- behind
   have hadd : addC (b.drop i) r n = one1 r n ++ b.drop i := by
    have h1 : ¬ cmpR b[i].row r < 0 := by omega
    have h2 : ¬ cmpR b[i].row r = 0 := by omega
    rw [hd, addC, if_neg h1, if_neg h2]
   have hr : (rd_zan_36_4 [.l (b.map Cnt.e), .l (re r), .i n, .b false, .i (i : Nat), .l (o.map Cnt.e)]).val = some (.next [.l (b.map Cnt.e), .l (re r), .i n, .b true, .i ((i + 1 : Nat) : Int), .l ((o ++ one1 r n ++ [b[i]]).map Cnt.e)]) := by
    rw [map_app_e, map_app_e, List.map_cons, List.map_nil, hbi]
    by_cases hz : n = 0
    ·rw [hz, one1_0]
     simp only [rd_zan_36_4, rt_test, rt_next, rt_stop, el_map _ _ h, row_e, n_e, ln_map, inR_cast, Int.ofNat_lt, h, decide_true, if_true, hc, hx, ok_some', out_some, uI_0, beq_self_eq_true, e1, bne_self_eq_false, Bool.false_eq_true, if_false, Bool.not_false, w64_succ (i := i) (by omega), List.map_nil, List.append_nil]
     rfl
    ·have hz' : (n != 0) = true := by simpa using hz
     rw [one1_e _ _ hz]
     simp only [rd_zan_36_4, rt_test, rt_next, rt_stop, el_map _ _ h, row_e, n_e, ln_map, inR_cast, Int.ofNat_lt, h, decide_true, if_true, hc, hx, ok_some', out_some, uI_0, beq_self_eq_true, e1, e2, hz', Bool.false_eq_true, if_false, Bool.not_false, w64_succ (i := i) (by omega)]
     rfl
   have ho : (o ++ one1 r n ++ [b[i]]).length ≤ i + 1 + 1 := by
    rw [List.length_append, List.length_append]; unfold one1; split <;> simp <;> omega
   have hl := add_laid b hb r n (b.length - (i + 1)) (i + 1) (o ++ one1 r n ++ [b[i]]) rfl (by omega) ho hlen (fun c hc e => by
    have h1 := hrest c hc
    rw [e] at h1
    omega)
   refine ⟨true, o ++ one1 r n ++ [b[i]] ++ b.drop (i + 1), by rw [lres_next hr, hl], fun _ => ?_, fun h => (by cases h)⟩
   rw [hadd, hd]
   simp

theorem Add_res5 (b : List Cnt) (hb : okB b) (hlen : b.length ≤ 4398046511102) (hr : rising b) (r : List Val) (n : Int) (hn : n.natAbs ≤ 2305843009213693952) (hbn : ∀ c ∈ b, c.n.natAbs ≤ 2305843009213693952) :
  (m_zan [.l (b.map Cnt.e), .l (re r), .i n]).res = some (0, [.l ((addC b r n).map Cnt.e)]) := by
 obtain ⟨lb, o', h1, h2, h3⟩ := add_loop b hb hlen hr r n hn hbn b.length 0 [] (by omega) (by omega) (by simp)
 simp only [Int.natCast_zero, List.map_nil, List.drop_zero, List.nil_append] at h1 h2 h3
 cases lb with
 | true =>
  rw [h2 rfl] at h1
  simp only [m_zan, h1, ok_some', out_some, res_test, res_stop, uB_s, uB_0, uL_s, uL_0, beq_self_eq_true, if_true, Bool.not_true, Bool.false_eq_true, if_false]
 | false =>
  obtain ⟨q1, q2, q3⟩ := h3 rfl
  subst q1
  have e1 : ((o'.map Cnt.e).length + 1) * 32 ≤ 140737488355328 := by rw [List.length_map]; omega
  rw [q2, map_app_e]
  by_cases hz : n = 0
  ·subst hz
   rw [one1_0]
   simp only [m_zan, h1, ok_some', out_some, res_test, res_stop, uB_s, uB_0, uI_s, uI_0, uL_s, uL_0, beq_self_eq_true, if_true, Bool.not_false, bne_self_eq_false, Bool.false_eq_true, if_false, List.map_nil, List.append_nil]
  ·have hz' : (n != 0) = true := by simpa using hz
   rw [one1_e _ _ hz]
   simp only [m_zan, h1, ok_some', out_some, res_test, res_stop, uB_s, uB_0, uI_s, uI_0, uL_s, uL_0, beq_self_eq_true, if_true, Bool.not_false, hz', e1, decide_true]

end Go.Proofs.YtkaljlpbmbfpgaaGreatDoor

set_option linter.unusedVariables false
set_option linter.unusedSimpArgs false
namespace Go.Proofs.YtkaljlpbmbfpgaaGreatDoor
open Go Go.Pu

theorem At.mono {l : List Rec} {a b : Val} {p q : Nat} (h : At l a p) (g : At l b q) (hab : cmpV a b < 0) : p ≤ q := by
 by_cases e : p ≤ q
 ·exact e
 ·exfalso
  have hq : q < l.length := by have := h.le; omega
  have h1 := h.lo q hq (by omega)
  have g1 := g.hi q hq (Nat.le_refl _)
  have := cV.lt_trans h1 hab
  omega

end Go.Proofs.YtkaljlpbmbfpgaaGreatDoor

set_option linter.unusedVariables false
set_option linter.unusedSimpArgs false
namespace Go.Proofs.YtkaljlpbmbfpgaaGreatDoor
open Go Go.Pu

theorem el_at {α : Type} (f : α → List PV) {l : List α} {i : Nat} (h : i < l.length) : el (l.map f) i = f l[i] := el_map f l h

/-! a table, by its name -/

/-! by a key -/

/-! between two keys -/

/-! the same reads -/

end Go.Proofs.YtkaljlpbmbfpgaaGreatDoor

set_option linter.unusedVariables false
set_option linter.unusedSimpArgs false
namespace Go.Proofs.YtkaljlpbmbfpgaaGreatDoor
open Go Go.Pu

/-- a loop that holds two lists against each other -/
theorem loop_eq {α : Type} [DecidableEq α] {a b : List α} (hl : a.length = b.length) {rd : List U → Rt} (st : Nat → List U) (j0 j1 : Nat) (u0 u1 : List U)
  (hend : (rd (st a.length)).val = some (.stop j1 u1))
  (hstep : ∀ i (h1 : i < a.length) (h2 : i < b.length), (rd (st i)).val = if a[i] = b[i] then some (.next (st (i + 1))) else some (.stop j0 u0)) :
  lres rd (st 0) = if a = b then some (j1, u1) else some (j0, u0) := by
 rcases loop_ix a.length st (fun i => decide (a[i]? = b[i]?)) j0 j1 (fun _ => u0) u1 hend (fun i h1 _ => by
   have h2 : i < b.length := by omega
   rw [hstep i h1 h2]; simp [h1, h2]) with ⟨h1, h2⟩ | ⟨i, hi, h1, _, h2⟩
 ·have he : a = b := List.ext_getElem? fun i => by
   by_cases hi : i < a.length
   ·simpa using h1 i hi
   ·rw [List.getElem?_eq_none (by omega), List.getElem?_eq_none (by omega)]
  rw [if_pos he, h2]
 ·have he : a ≠ b := fun e => by subst e; simp at h1
  rw [if_neg he, h2]

theorem cnt_ext {x y : Cnt} : (x.n = y.n ∧ x.row = y.row) ↔ x = y := by
 obtain ⟨a, b⟩ := x
 obtain ⟨a', b'⟩ := y
 simp [And.comm]

theorem R05_Same_res {a b : List Cnt} (ha : okB a) (hb : okB b) : (m_zbl [.l (a.map Cnt.e), .l (b.map Cnt.e)]).res = some (0, [.b (decide (a = b))]) := by
 have h0 := ha.1
 by_cases hl : a.length = b.length
 ·have h := loop_eq hl (rd := rd_zbl_19_4) (fun i => [.l (a.map Cnt.e), .l (b.map Cnt.e), .i (i : Nat)]) 0 1 [.b false] [] (by simp [rd_zbl_19_4]) (by
   intro i h1 h2
   have hc := R02_Compare_res a[i].row b[i].row (ha.2 _ (List.getElem_mem h1)).1.1
   have hz := cR.zero a[i].row b[i].row
   have hx := cnt_ext (x := a[i]) (y := b[i])
   by_cases he : a[i] = b[i]
   ·have hs := cR.self b[i].row
    rw [he] at hc
    simp [rd_zbl_19_4, el_at _ h1, el_at _ h2, h1, h2, Cnt.e, w64_succ (i := i) (by omega), he, hc, hs]
   ·by_cases hn : a[i].n = b[i].n
    ·have hr : ¬ cmpR a[i].row b[i].row = 0 := fun h => he (hx.1 ⟨hn, hz.1 h⟩)
     simp [rd_zbl_19_4, el_at _ h1, el_at _ h2, h1, h2, Cnt.e, he, hn, hc, hr]
    ·simp [rd_zbl_19_4, el_at _ h1, el_at _ h2, h1, h2, Cnt.e, he, hn])
  simp only [Int.natCast_zero] at h
  by_cases he : a = b
  ·subst he
   simp at h
   simp [m_zbl, h]
  ·rw [if_neg he] at h
   simp [m_zbl, h, hl, he]
 ·have hl' : ¬ (a.length : Int) = b.length := by omega
  have he : a ≠ b := fun e => hl (by rw [e])
  simp [m_zbl, hl', he]

/-! a view's rows -/

/-! is what was read so? -/

end Go.Proofs.YtkaljlpbmbfpgaaGreatDoor

set_option linter.unusedVariables false
set_option linter.unusedSimpArgs false
namespace Go.Proofs.YtkaljlpbmbfpgaaGreatDoor
open Go Go.Pu

end Go.Proofs.YtkaljlpbmbfpgaaGreatDoor

set_option linter.unusedVariables false
set_option linter.unusedSimpArgs false
namespace Go.Proofs.YtkaljlpbmbfpgaaGreatDoor
open Go Go.Pu

theorem sumB_okB {l : List Cnt} (h : okB l) (ha : absN l ≤ 4611686018427387904) : okB (sumB l) := by
 refine ⟨Nat.le_trans (sumB_len l) h.1, fun c hc => ?_⟩
 obtain ⟨d, hd, e⟩ := sumB_row hc
 refine ⟨by rw [← e]; exact (h.2 d hd).1, ?_⟩
 have := cnt_abs l c.row
 rw [sumB_n hc]
 unfold i64
 omega
theorem sumB_snoc (l : List Cnt) (c : Cnt) : sumB (l ++ [c]) = addC (sumB l) c.row c.n := by unfold sumB; rw [List.foldl_append]; rfl

theorem R05_Of_res (l : List (List Val)) (h0 : l.length ≤ 1000000) (hl : ∀ r ∈ l, okR r) : (m_zao [.l (l.map reR)]).res = some (0, [.l ((ofB l).map Cnt.e)]) := by
 have h := loop_all' l (rd := rd_zao_65_3) (fun i => [.l (l.map reR), .i (i : Nat), .l ((sumB ((l.take i).map oneC)).map Cnt.e)]) mayR 0 1 [] [.l ((sumB (l.map oneC)).map Cnt.e)] (by simp [rd_zao_65_3]) (by
  intro i h
  have hm := hl _ (List.getElem_mem h)
  have h1 := R04_May_res l[i] hm
  have e1 : cL (reR l[i]) 0 = re l[i] := rfl
  have ht : ∀ r ∈ l.take i, okR r := fun r hr => hl r (List.mem_of_mem_take hr)
  have hlt : (l.take i).length ≤ 1000000 := by rw [List.length_take]; omega
  have ho := one_okB hlt ht
  have ha := one_abs (l.take i)
  have hs := sumB_okB ho (by omega)
  have hsl := sumB_len ((l.take i).map oneC)
  rw [List.length_map] at hsl
  have h2 := Add_res5 (sumB ((l.take i).map oneC)) hs (by omega) (sumB_canon _).1 l[i] 1 (by decide) (fun c hc => by
   have := cnt_abs ((l.take i).map oneC) c.row
   rw [sumB_n hc]; omega)
  have e2 : addC (sumB ((l.take i).map oneC)) l[i] 1 = sumB ((l.take (i + 1)).map oneC) := by
   rw [take_one l h, List.map_append, List.map_singleton, sumB_snoc]; rfl
  rw [e2] at h2
  by_cases c : mayR l[i] = true
  ·simp only [rd_zao_65_3, rt_test, rt_next, rt_stop, el_map _ _ h, ln_map, inR_cast, Int.ofNat_lt, h, decide_true, if_true, e1, h1, c, ok_some', out_some, uB_0, uL_0, beq_self_eq_true, Bool.not_true, Bool.false_eq_true, if_false, h2, w64_succ (i := i) (by omega)]
  ·rw [Bool.not_eq_true] at c
   simp only [rd_zao_65_3, rt_test, rt_next, rt_stop, el_map _ _ h, ln_map, inR_cast, Int.ofNat_lt, h, decide_true, if_true, e1, h1, c, ok_some', out_some, uB_0, uL_0, beq_self_eq_true, Bool.not_false, Bool.false_eq_true, if_false])
 simp only [Int.natCast_zero, List.take_zero, List.map_nil, show sumB [] = [] from rfl] at h
 unfold ofB
 by_cases e : l.all mayR = true
 ·rw [if_pos e] at h ⊢
  simp [m_zao, h]
 ·rw [if_neg e] at h ⊢
  simp [m_zao, h]

/-! the reference's order of rows -/

end Go.Proofs.YtkaljlpbmbfpgaaGreatDoor

set_option linter.unusedVariables false
set_option linter.unusedSimpArgs false
namespace Go.Proofs.YtkaljlpbmbfpgaaGreatDoor
open Go Go.Pu

theorem dig_ext (d : Nat) (h : d < 10) : ByteArray.extract { data := #[(48 : UInt8), 49, 50, 51, 52, 53, 54, 55, 56, 57] } d (d + 1) = bs [UInt8.ofNat (48 + d)] := by
 have h2 : d = 0 ∨ d = 1 ∨ d = 2 ∨ d = 3 ∨ d = 4 ∨ d = 5 ∨ d = 6 ∨ d = 7 ∨ d = 8 ∨ d = 9 := by omega
 rcases h2 with rfl | rfl | rfl | rfl | rfl | rfl | rfl | rfl | rfl | rfl <;> exact (bs_ext [48, 49, 50, 51, 52, 53, 54, 55, 56, 57] _ _)

theorem digits_loop : ∀ (m n : Nat) (acc : List UInt8), n ≤ m → n < 18446744073709551616 → acc.length + Lib.nDigits n ≤ 100 →
  ∃ (t : Nat) (r : List UInt8), lres rd_zau_84_2 [.i (n : Nat), .s (bs acc)] = some (0, [.i (t : Nat), .s (bs r)]) ∧ t < 10 ∧ UInt8.ofNat (48 + t) :: r = Lib.decDigits n ++ acc ∧ r.length ≤ 100 := by
 intro m
 induction m with
 | zero =>
  intro n acc h1 h2 h3
  have : n = 0 := by omega
  subst this
  refine ⟨0, acc, lres_stop (by simp [rd_zau_84_2]), by decide, ?_, by omega⟩
  rw [Lib.decDigits_one (i := 0) (by decide)]; rfl
 | succ m ih =>
  intro n acc h1 h2 h3
  by_cases h : n < 10
  ·have hp := Lib.nDigits_pos n
   refine ⟨n, acc, lres_stop ?_, h, ?_, by omega⟩
   ·have : ¬ ((n : Nat) : Int) > 9 := by omega
    simp only [rd_zau_84_2, rt_test, rt_stop, this, decide_false, Bool.false_eq_true, if_false]
   ·rw [Lib.decDigits_one h]; rfl
  ·have hd : n % 10 < 10 := Nat.mod_lt _ (by decide)
   have c9 : ((n : Nat) : Int) > 9 := by omega
   have t1 : Int.tmod (n : Int) 10 = ((n % 10 : Nat) : Int) := rfl
   have t2 : Int.tdiv (n : Int) 10 = ((n / 10 : Nat) : Int) := rfl
   have w1 : IntKind.u64.wrap (((n % 10 : Nat) : Int) + 1) = ((n % 10 + 1 : Nat) : Int) := by rw [wrap_u64 (by omega) (by omega)]; omega
   have w2 : IntKind.u64.wrap ((n / 10 : Nat) : Int) = ((n / 10 : Nat) : Int) := wrap_u64 (by omega) (by omega)
   have d1 : decide ((0 : Int) ≤ ((n % 10 : Nat) : Int) ∧ ((n % 10 : Nat) : Int) ≤ ((n % 10 + 1 : Nat) : Int) ∧ ((n % 10 + 1 : Nat) : Int) ≤ 10) = true := by rw [decide_eq_true_eq]; omega
   have d2 : decide (1 + acc.length ≤ 9223372036854775807) = true := by rw [decide_eq_true_eq]; omega
   have hr : (rd_zau_84_2 [.i (n : Nat), .s (bs acc)]).val = some (.next [.i ((n / 10 : Nat) : Int), .s (bs (UInt8.ofNat (48 + n % 10) :: acc))]) := by
    simp only [rd_zau_84_2, rt_test, rt_next, rt_stop, c9, decide_true, if_true, t1, t2, w1, w2, d1, Int.toNat_natCast, dig_ext _ hd, bs_size, bs_app, List.length_singleton, d2, List.singleton_append]
   obtain ⟨t, r, k1, k2, k3, k4⟩ := ih (n / 10) (UInt8.ofNat (48 + n % 10) :: acc) (by omega) (by omega) (by
    rw [Lib.nDigits_big h] at h3
    simp only [List.length_cons]; omega)
   refine ⟨t, r, by rw [lres_next hr, k1], k2, ?_, k4⟩
   rw [k3]
   conv => rhs; rw [Lib.decDigits, dif_neg h]
   simp

theorem Digits_res (n : Nat) (h : n < 18446744073709551616) : (m_zau [.i (n : Nat)]).res = some (0, [.s (bs (Lib.decDigits n))]) := by
 have hn := nDig_le n h
 obtain ⟨t, r, k1, k2, k3, k4⟩ := digits_loop n n [] (Nat.le_refl _) h (by simp; omega)
 have w1 : IntKind.u64.wrap ((t : Int) + 1) = ((t + 1 : Nat) : Int) := by rw [wrap_u64 (by omega) (by omega)]; omega
 have d1 : decide ((0 : Int) ≤ (t : Int) ∧ (t : Int) ≤ ((t + 1 : Nat) : Int) ∧ ((t + 1 : Nat) : Int) ≤ 10) = true := by rw [decide_eq_true_eq]; omega
 have d2 : decide (1 + r.length ≤ 9223372036854775807) = true := by rw [decide_eq_true_eq]; omega
 have e0 : ({ data := #[] } : ByteArray) = bs [] := rfl
 rw [List.append_nil] at k3
 simp only [m_zau, e0, k1, ok_some', out_some, res_test, res_stop, uI_0, uS_0, uS_s, beq_self_eq_true, if_true, w1, d1, Int.toNat_natCast, dig_ext _ k2, bs_size, bs_app, List.length_singleton, d2, List.singleton_append, k3]

theorem Signed_res (n : Int) (h : i64 n) : (m_zav [.i n]).res = some (0, [.s (bs (Lib.itoa n))]) := by
 unfold i64 at h
 have hl := itoa_len (n := n) h
 unfold Lib.itoa at hl ⊢
 have e1 : ({ data := #[(45 : UInt8)] } : ByteArray) = bs [45] := rfl
 by_cases c : n < 0
 ·rw [if_pos c] at hl ⊢
  have w1 : w64 (n + 1) = n + 1 := w64_eq (by omega) (by omega)
  have w2 : w64 (0 - (n + 1)) = 0 - (n + 1) := w64_eq (by omega) (by omega)
  have w3 : IntKind.u64.wrap (0 - (n + 1)) = 0 - (n + 1) := wrap_u64 (by omega) (by omega)
  have w4 : IntKind.u64.wrap (0 - (n + 1) + 1) = (n.natAbs : Nat) := by rw [wrap_u64 (by omega) (by omega)]; omega
  have hd := Digits_res n.natAbs (by omega)
  have d1 : decide (1 + (Lib.decDigits n.natAbs).length ≤ 9223372036854775807) = true := by rw [decide_eq_true_eq]; rw [List.length_cons] at hl; omega
  simp only [m_zav, res_test, res_stop, c, decide_true, if_true, w1, w2, w3, w4, hd, ok_some', out_some, uS_0, beq_self_eq_true, bs_size, d1, e1, bs_app, List.singleton_append]
 ·rw [if_neg c]
  have w3 : IntKind.u64.wrap n = (n.toNat : Nat) := by rw [wrap_u64 (by omega) (by omega)]; omega
  have hd := Digits_res n.toNat (by omega)
  simp only [m_zav, res_test, res_stop, c, decide_false, Bool.false_eq_true, if_false, w3, hd, ok_some', out_some, uS_0, beq_self_eq_true, if_true]

theorem text_loop (k n : Int) (s : List UInt8) (hs : s.length ≤ 100000) : ∀ m i (o : List UInt8), s.length - i = m → i ≤ s.length → o.length ≤ 2 * i + 1 →
  lres rd_zaw_83_13 [.s (bs o), .i (i : Nat), .i k, .i n, .s (bs s)] = some (0, [.s (bs (o ++ dbl (s.drop i)))]) := by
 intro m
 induction m with
 | zero =>
  intro i o h1 h2 h3
  have : i = s.length := by omega
  subst this
  refine lres_stop ?_
  simp [rd_zaw_83_13]
 | succ m ih =>
  intro i o h1 h2 h3
  have h : i < s.length := by omega
  have w : w64 ((i : Int) + 1) = ((i + 1 : Nat) : Int) := w64_succ (by omega)
  have g : List.getD s i 0 = s[i] := by rw [List.getD, List.getElem?_eq_getElem h]; rfl
  have ex : (s.take (i + 1)).drop i = [s[i]] := by
   rw [List.drop_take, List.drop_eq_getElem_cons h, show i + 1 - i = 1 by omega]; rfl
  have d0 : ((i : Nat) : Int) < ((s.length : Nat) : Int) := by omega
  have d1 : decide ((0 : Int) ≤ ((i : Nat) : Int) ∧ ((i : Nat) : Int) ≤ ((i + 1 : Nat) : Int) ∧ ((i + 1 : Nat) : Int) ≤ ((s.length : Nat) : Int)) = true := by rw [decide_eq_true_eq]; omega
  have hi : inR ((i : Nat) : Int) ((s.length : Nat) : Int) = true := inR_iff.2 ⟨by omega, by omega⟩
  have e39 : ({ data := #[(39 : UInt8)] } : ByteArray) = bs [39] := rfl
  rw [List.drop_eq_getElem_cons h, dbl_cons]
  by_cases c : s[i] = 39
  ·have c2 : (((s[i].toNat : Nat) : Int) == 39) = true := by rw [c]; rfl
   have d2 : o.length + 1 ≤ 9223372036854775807 := by omega
   have d3 : decide ((o ++ [39]).length + 1 ≤ 9223372036854775807) = true := by rw [decide_eq_true_eq]; simp; omega
   have hr : (rd_zaw_83_13 [.s (bs o), .i (i : Nat), .i k, .i n, .s (bs s)]).val = some (.next [.s (bs (o ++ [39] ++ [s[i]])), .i ((i + 1 : Nat) : Int), .i k, .i n, .s (bs s)]) := by
    simp only [rd_zaw_83_13, rt_test, rt_next, rt_stop, bs_size, bs_data, d0, decide_true, hi, if_true, Int.toNat_natCast, g, c2, w, d1, d2, e39, bs_app, bs_ext, ex, List.length_singleton, d3]
   rw [lres_next hr, ih (i + 1) _ (by omega) (by omega) (by simp; omega), if_pos c, c]
   simp
  ·have c2 : (((s[i].toNat : Nat) : Int) == 39) = false := by
    rw [beq_eq_false_iff_ne]
    intro hh
    apply c
    apply UInt8.toNat_inj.1
    show s[i].toNat = 39
    omega
   have d2 : o.length + 1 ≤ 9223372036854775807 := by omega
   have hr : (rd_zaw_83_13 [.s (bs o), .i (i : Nat), .i k, .i n, .s (bs s)]).val = some (.next [.s (bs (o ++ [s[i]])), .i ((i + 1 : Nat) : Int), .i k, .i n, .s (bs s)]) := by
    simp only [rd_zaw_83_13, rt_test, rt_next, rt_stop, bs_size, bs_data, d0, decide_true, hi, if_true, Int.toNat_natCast, g, c2, w, d1, d2, bs_app, bs_ext, ex, List.length_singleton, Bool.false_eq_true, if_false]
   rw [lres_next hr, ih (i + 1) _ (by omega) (by omega) (by simp; omega), if_neg c]
   simp

theorem RText_res (v : Val) (hv : v.ok) (hs : v.s.length ≤ 100000) : (m_zaw [.i v.k, .i v.n, .s (bs v.s)]).res = some (0, [.s (bs (txt v))]) := by
 have h1 := Signed_res v.n hv.2.1
 have h2 := text_loop v.k v.n v.s hs v.s.length 0 [39] (by omega) (by omega) (by simp)
 have h3 := dbl_len v.s
 simp only [Int.natCast_zero, List.drop_zero] at h2
 have e39 : ({ data := #[(39 : UInt8)] } : ByteArray) = bs [39] := rfl
 have e1 : ({ data := #[(110 : UInt8), 117, 108, 108] } : ByteArray) = bs [110, 117, 108, 108] := rfl
 have e2 : ({ data := #[(102 : UInt8), 97, 108, 115, 101] } : ByteArray) = bs [102, 97, 108, 115, 101] := rfl
 have e3 : ({ data := #[(116 : UInt8), 114, 117, 101] } : ByteArray) = bs [116, 114, 117, 101] := rfl
 have e4 : ({ data := #[(63 : UInt8)] } : ByteArray) = bs [63] := rfl
 have d1 : decide (([39] ++ dbl v.s).length + 1 ≤ 9223372036854775807) = true := by rw [decide_eq_true_eq]; simp; omega
 unfold txt
 by_cases k0 : v.k = 0
 ·simp [m_zaw, k0, e1]
 by_cases k1 : v.k = 1
 ·by_cases n0 : v.n = 0
  ·simp [m_zaw, k1, n0, e2]
  ·simp [m_zaw, k1, n0, e3]
 by_cases k2 : v.k = 2
 ·simp [m_zaw, k2, h1]
 by_cases k3 : v.k = 3
 ·rw [k3] at h2
  have b0 : ((3 : Int) == 0) = false := rfl
  have b1 : ((3 : Int) == 1) = false := rfl
  have b2 : ((3 : Int) == 2) = false := rfl
  simp only [k3, m_zaw, res_test, res_stop, b0, b1, b2, Bool.false_eq_true, if_false, beq_self_eq_true, if_true, e39, h2, ok_some', out_some, uS_0, bs_size, d1, bs_app]
  rfl
 ·simp [m_zaw, k0, k1, k2, k3, e4]

theorem RrowText_res (r : List Val) (hr : okT r) : (m_zax [.l (re r)]).res = some (0, [.s (bs (txtR r))]) := by
 have hl := hr.2.1
 have hbody : ∀ i, i ≤ r.length → (bodyT (r.take i)).length ≤ 40006400 := fun i hi =>
  okT_len ⟨fun v hv => hr.1 v (List.mem_of_mem_take hv), by rw [List.length_take]; omega, fun v hv => hr.2.2 v (List.mem_of_mem_take hv)⟩
 have e0 : ({ data := #[(40 : UInt8)] } : ByteArray) = bs [40] := rfl
 have e1 : ({ data := #[(44 : UInt8), (32 : UInt8)] } : ByteArray) = bs [44, 32] := rfl
 have e2 : ({ data := #[(41 : UInt8)] } : ByteArray) = bs [41] := rfl
 have h := loop_acc (rd := rd_zax_66_3) r.length (fun i => [.l (re r), .s (bs (40 :: bodyT (r.take i))), .i (i : Nat)]) (some (0, [.s (bs (40 :: bodyT r))]))
  (lres_stop (by simp [rd_zax_66_3])) (by
  intro i h
  have hm := List.getElem_mem h
  have ht := RText_res r[i] (hr.1 _ hm) (hr.2.2 _ hm)
  have htl := txt_len (hr.1 _ hm)
  have hts := hr.2.2 _ hm
  have hb := hbody i (by omega)
  have v0 : cI (Val.e r[i]) 0 = r[i].k := rfl
  have v1 : cI (Val.e r[i]) 1 = r[i].n := rfl
  have v2 : cS (Val.e r[i]) 2 = bs r[i].s := rfl
  by_cases c : i = 0
  ·subst c
   have c0 : ¬ ((0 : Nat) : Int) > 0 := by omega
   have d1 : decide (([40] : List UInt8).length + (txt r[0]).length ≤ 9223372036854775807) = true := by rw [decide_eq_true_eq, List.length_singleton]; omega
   have e3 : bodyT (r.take (0 + 1)) = txt r[0] := by
    match r, h with
    | v :: r, _ => simp [bodyT, tlT]
   rw [e3]
   simp only [rd_zax_66_3, rt_test, rt_next, rt_stop, el_re _ h, v0, v1, v2, ln_re, inR_cast, Int.ofNat_lt, h, decide_true, if_true, c0, decide_false, Bool.false_eq_true, if_false, ht, ok_some', out_some, uS_0, beq_self_eq_true, bs_size, List.take_zero, show bodyT [] = [] from rfl, d1, bs_app, w64_succ (i := 0) (by omega)]
   rfl
  ·have c0 : ((i : Nat) : Int) > 0 := by omega
   have d0 : decide ((40 :: bodyT (r.take i)).length + 2 ≤ 9223372036854775807) = true := by rw [decide_eq_true_eq, List.length_cons]; omega
   have d1 : decide ((40 :: bodyT (r.take i) ++ [44, 32]).length + (txt r[i]).length ≤ 9223372036854775807) = true := by rw [decide_eq_true_eq]; simp; omega
   have e3 : bodyT (r.take (i + 1)) = bodyT (r.take i) ++ (44 :: 32 :: txt r[i]) := by
    rw [take_one r h]
    have h1 : bodyT [r[i]] = txt r[i] := by simp [bodyT, tlT]
    rw [← h1]
    refine body_app ?_ (by simp)
    intro hh
    have := congrArg List.length hh
    rw [List.length_take, List.length_nil] at this
    omega
   rw [e3]
   simp only [rd_zax_66_3, rt_test, rt_next, rt_stop, el_re _ h, v0, v1, v2, ln_re, inR_cast, Int.ofNat_lt, h, decide_true, if_true, c0, d0, e1, ht, ok_some', out_some, uS_0, beq_self_eq_true, bs_size, d1, bs_app, w64_succ (i := i) (by omega)]
   simp
   omega)
 simp only [Int.natCast_zero, List.take_zero, show bodyT [] = [] from rfl] at h
 have hb := okT_len hr
 have d2 : decide ((40 :: bodyT r).length + 1 ≤ 9223372036854775807) = true := by rw [decide_eq_true_eq, List.length_cons]; omega
 simp only [m_zax, e0, e2, h, ok_some', out_some, res_test, res_stop, uS_0, beq_self_eq_true, if_true, bs_size, d2, bs_app, txtR]
 rfl

theorem tlC_app (a b : List Cnt) : tlC (a ++ b) = tlC a ++ tlC b := by simp [tlC]
theorem txtB_snoc (b : List Cnt) (c : Cnt) : txtB (b ++ [c]) = if b.length = 0 then entT c else txtB b ++ (32 :: entT c) := by
 cases b with
 | nil => simp [txtB, tlC]
 | cons d b =>
  rw [if_neg (by simp)]
  show entT d ++ tlC (b ++ [c]) = entT d ++ tlC b ++ _
  rw [tlC_app]
  simp [tlC]

theorem RbagText_res (b : List Cnt) (hb : okB b) (h0 : b.length ≤ 1000000) : (m_zay [.l (b.map Cnt.e)]).res = some (0, [.s (bs (if mayB b = true then txtB b else []))]) := by
 have hm := R05_May_res b hb
 have eb : ({ data := #[] } : ByteArray) = bs [] := rfl
 cases e0 : mayB b with
 | false =>
  have hl : lres rd_zay_41_3 [.l (b.map Cnt.e), .s (bs []), .i 0] = some (0, [.s (bs [])]) := by
   refine lres_stop ?_
   by_cases hn : (0 : Int) < (b.length : Nat)
   ·simp only [rd_zay_41_3, rt_test, rt_stop, ln_map, hn, decide_true, if_true, hm, e0, ok_some', out_some, uB_0, beq_self_eq_true, Bool.false_eq_true, if_false]
   ·simp only [rd_zay_41_3, rt_test, rt_stop, ln_map, hn, decide_false, Bool.false_eq_true, if_false]
  simp only [m_zay, eb, hl, ok_some', out_some, res_test, res_stop, uS_0, beq_self_eq_true, if_true, Bool.false_eq_true, if_false]
 | true =>
  have hent : ∀ c ∈ b, (entT c).length ≤ 40006430 := fun c hc => entT_len (mayR_okT (hb.2 c hc).1 (mayB_row e0 hc)) (hb.2 c hc).2
  have h := loop_acc (rd := rd_zay_41_3) b.length (fun i => [.l (b.map Cnt.e), .s (bs (txtB (b.take i))), .i (i : Nat)]) (some (0, [.s (bs (txtB b))]))
   (lres_stop (by simp [rd_zay_41_3])) (by
   intro i h
   have hc := List.getElem_mem h
   have hok := mayR_okT (hb.2 _ hc).1 (mayB_row e0 hc)
   have ht := RrowText_res b[i].row hok
   have hl := txtR_len hok
   have hbl := txtB_len (b := b.take i) fun c hc => hent c (List.mem_of_mem_take hc)
   rw [List.length_take] at hbl
   have hbl2 : (txtB (b.take i)).length ≤ 1000000 * 40006431 := Nat.le_trans hbl (Nat.mul_le_mul_right _ (by omega))
   have hsg := Signed_res b[i].n (hb.2 _ hc).2
   have hit := itoa_len (hb.2 _ hc).2
   have e42 : ({ data := #[(42 : UInt8)] } : ByteArray) = bs [42] := rfl
   have e32 : ({ data := #[(32 : UInt8)] } : ByteArray) = bs [32] := rfl
   have hlen0 : (b.take i).length = i := by rw [List.length_take]; omega
   have hsn := txtB_snoc (b.take i) b[i]
   rw [← take_one b h, hlen0] at hsn
   have dn : decide (1 + (Lib.itoa b[i].n).length ≤ 9223372036854775807) = true := by rw [decide_eq_true_eq]; omega
   by_cases c0 : i = 0
   ·subst c0
    rw [if_pos rfl] at hsn
    have g0 : ¬ ((0 : Nat) : Int) > 0 := by omega
    have t0 : txtB (b.take 0) = [] := by simp [txtB]
    have d1 : decide (([] : List UInt8).length + (txtR b[0].row).length ≤ 9223372036854775807) = true := by rw [decide_eq_true_eq, List.length_nil]; omega
    by_cases c : b[0].n = 1
    ·have c' : (b[0].n != 1) = false := by simp [c]
     have ee : entT b[0] = txtR b[0].row := by unfold entT cntT; rw [if_pos c, List.append_nil]
     rw [hsn, ee]
     simp only [rd_zay_41_3, rt_test, rt_next, rt_stop, el_map _ _ h, row_e, n_e, ln_map, inR_cast, Int.ofNat_lt, h, decide_true, if_true, hm, e0, g0, decide_false, Bool.false_eq_true, if_false, t0, ht, ok_some', out_some, uB_0, uS_0, beq_self_eq_true, bs_size, d1, c', bs_app, List.nil_append, w64_succ (i := 0) (by omega)]
    ·have c' : (b[0].n != 1) = true := by simp [c]
     have ee : entT b[0] = txtR b[0].row ++ (([42] : List UInt8) ++ Lib.itoa b[0].n) := by unfold entT cntT; rw [if_neg c]; rfl
     have d2 : decide ((([] : List UInt8) ++ txtR b[0].row).length + (([42] : List UInt8) ++ Lib.itoa b[0].n).length ≤ 9223372036854775807) = true := by rw [decide_eq_true_eq]; simp; omega
     rw [hsn, ee]
     simp only [rd_zay_41_3, rt_test, rt_next, rt_stop, el_map _ _ h, row_e, n_e, ln_map, inR_cast, Int.ofNat_lt, h, decide_true, if_true, hm, e0, g0, decide_false, Bool.false_eq_true, if_false, t0, ht, hsg, dn, e42, ok_some', out_some, uB_0, uS_0, beq_self_eq_true, bs_size, d1, d2, c', bs_app, w64_succ (i := 0) (by omega)]
     simp
   ·rw [if_neg c0] at hsn
    have g0 : ((i : Nat) : Int) > 0 := by omega
    have d0 : decide ((txtB (b.take i)).length + 1 ≤ 9223372036854775807) = true := by rw [decide_eq_true_eq]; omega
    have d1 : decide ((txtB (b.take i) ++ [32]).length + (txtR b[i].row).length ≤ 9223372036854775807) = true := by rw [decide_eq_true_eq]; simp; omega
    by_cases c : b[i].n = 1
    ·have c' : (b[i].n != 1) = false := by simp [c]
     have ee : entT b[i] = txtR b[i].row := by unfold entT cntT; rw [if_pos c, List.append_nil]
     rw [hsn, ee]
     simp only [rd_zay_41_3, rt_test, rt_next, rt_stop, el_map _ _ h, row_e, n_e, ln_map, inR_cast, Int.ofNat_lt, h, decide_true, if_true, hm, e0, g0, d0, e32, ht, ok_some', out_some, uB_0, uS_0, beq_self_eq_true, bs_size, d1, c', bs_app, Bool.false_eq_true, if_false, w64_succ (i := i) (by omega)]
     simp
     omega
    ·have c' : (b[i].n != 1) = true := by simp [c]
     have ee : entT b[i] = txtR b[i].row ++ ([42] ++ Lib.itoa b[i].n) := by unfold entT cntT; rw [if_neg c]; rfl
     have d2 : decide ((txtB (b.take i) ++ [32] ++ txtR b[i].row).length + (([42] : List UInt8) ++ Lib.itoa b[i].n).length ≤ 9223372036854775807) = true := by rw [decide_eq_true_eq]; simp; omega
     rw [hsn, ee]
     simp only [rd_zay_41_3, rt_test, rt_next, rt_stop, el_map _ _ h, row_e, n_e, ln_map, inR_cast, Int.ofNat_lt, h, decide_true, if_true, hm, e0, g0, d0, e32, ht, hsg, dn, e42, ok_some', out_some, uB_0, uS_0, beq_self_eq_true, bs_size, d1, d2, c', bs_app, w64_succ (i := i) (by omega)]
     simp
     omega)
  simp only [Int.natCast_zero, List.take_zero, show txtB [] = [] from rfl] at h
  simp only [m_zay, eb, h, ok_some', out_some, res_test, res_stop, uS_0, beq_self_eq_true, if_true]

end Go.Proofs.YtkaljlpbmbfpgaaGreatDoor

set_option linter.unusedVariables false
set_option linter.unusedSimpArgs false
namespace Go.Proofs.YtkaljlpbmbfpgaaGreatDoor
open Go Go.Pu

end Go.Proofs.YtkaljlpbmbfpgaaGreatDoor

set_option linter.unusedVariables false
set_option linter.unusedSimpArgs false
namespace Go.Proofs.YtkaljlpbmbfpgaaGreatDoor
open Go Go.Pu

end Go.Proofs.YtkaljlpbmbfpgaaGreatDoor

set_option linter.unusedVariables false
set_option linter.unusedSimpArgs false
namespace Go.Proofs.YtkaljlpbmbfpgaaGreatDoor
open Go Go.Pu

theorem RNeg_res (b : List Cnt) (h0 : b.length ≤ 1000000) (hb : okB b) : (m_zat [.l (b.map Cnt.e)]).res = some (0, [.l ((turnB b).map Cnt.e)]) := by
 have hm := R05_May_res b hb
 unfold turnB
 cases e0 : mayB b with
 | false =>
  have hl : lres rd_zat_35_3 [.l (b.map Cnt.e), .i 0, .l []] = some (0, [.l []]) := by
   refine lres_stop ?_
   by_cases hn : (0 : Int) < (b.length : Nat)
   ·simp only [rd_zat_35_3, rt_test, rt_stop, ln_map, hn, decide_true, if_true, hm, e0, ok_some', out_some, uB_0, beq_self_eq_true, Bool.false_eq_true, if_false]
   ·simp only [rd_zat_35_3, rt_test, rt_stop, ln_map, hn, decide_false, Bool.false_eq_true, if_false]
  simp only [m_zat, hl, ok_some', out_some, res_test, res_stop, uL_0, beq_self_eq_true, if_true, Bool.false_eq_true, if_false, List.map_nil]
 | true =>
  have h := loop_acc (rd := rd_zat_35_3) b.length (fun i => [.l (b.map Cnt.e), .i (i : Nat), .l ((negB (b.take i)).map Cnt.e)]) (some (0, [.l ((negB b).map Cnt.e)]))
   (lres_stop (by simp [rd_zat_35_3])) (by
   intro i h
   have hn := mayB_n e0 (List.getElem_mem h)
   have w : w64 (0 - b[i].n) = -b[i].n := by rw [w64_eq (by omega) (by omega)]; omega
   have d1 : decide ((((negB (b.take i)).map Cnt.e).length + 1) * 32 ≤ 140737488355328) = true := by rw [decide_eq_true_eq]; simp [negB]; omega
   have e1 : (negB (b.take i)).map Cnt.e ++ [[PV.lst 39 (re b[i].row), pI (-b[i].n)]] = (negB (b.take (i + 1))).map Cnt.e := by
    unfold negB
    rw [take_one b h, List.map_append, List.map_append]; rfl
   simp only [rd_zat_35_3, rt_test, rt_next, rt_stop, el_map _ _ h, row_e, n_e, ln_map, inR_cast, Int.ofNat_lt, h, decide_true, if_true, hm, e0, w, d1, e1, ok_some', out_some, uB_0, beq_self_eq_true, w64_succ (i := i) (by omega)])
  simp only [Int.natCast_zero, List.take_zero, show negB [] = [] from rfl, List.map_nil] at h
  simp only [m_zat, h, ok_some', out_some, res_test, res_stop, uL_0, beq_self_eq_true, if_true]

end Go.Proofs.YtkaljlpbmbfpgaaGreatDoor

set_option linter.unusedVariables false
set_option linter.unusedSimpArgs false
namespace Go.Proofs.YtkaljlpbmbfpgaaGreatDoor
open Go Go.Pu

/-- a view, as plain data -/
structure Vw where
 n0 : List UInt8
 n1 : List UInt8
 w : List UInt8
 i : Int
 j : Int
 wh : List Nd
 pk : List Int
 g : Bool
 ag : List (List PV)

def Vw.ok (v : Vw) : Prop := (∀ d ∈ v.wh, d.ok) ∧ v.wh.length ≤ 140737488355328 ∧ v.pk.length ≤ 140737488355328

/-! what stays -/

/-! picks -/

theorem pick_loop (s0 s1 s2 : ByteArray) (i j : Int) (l8 : List (List PV)) (P : List Int) (hP : P.length ≤ 1000000) (b10 : Bool) (l11 : List (List PV)) (B : List Cnt) (h0 : B.length ≤ 1000000) :
  lres rd_zv_43_5 [.l (B.map Cnt.e), .i (B.length : Nat), .i 0, .s s0, .s s1, .s s2, .i i, .i j, .l l8, .l (P.map kE), .b b10, .l l11, .l []] = some (0, [.l ((pickL P B).map Cnt.e)]) := by
 have h := loop_acc B.length (rd := rd_zv_43_5) (fun p => [.l (B.map Cnt.e), .i (B.length : Nat), .i (p : Nat), .s s0, .s s1, .s s2, .i i, .i j, .l l8, .l (P.map kE), .b b10, .l l11, .l ((pickL P (B.take p)).map Cnt.e)]) (some (0, [.l ((pickL P B).map Cnt.e)]))
  (lres_stop (by simp [rd_zv_43_5])) (by
  intro p h
  have h1 := Pick_res B[p].row P hP
  have row0 : cL B[p].e 0 = re B[p].row := rfl
  have row1 : cI B[p].e 1 = B[p].n := rfl
  have ht : pickL P (B.take (p + 1)) = pickL P (B.take p) ++ pickC P B[p] := by
   rw [take_one B h]; unfold pickL; rw [List.flatMap_append]; simp
  have r2 : (((pickL P (B.take p)).map Cnt.e).length + 1) * 32 ≤ 140737488355328 := by
   have := pick_len P (B.take p)
   rw [List.length_map]
   rw [List.length_take] at this
   omega
  have hl : ln (re (pickR B[p].row P)) = ((pickR B[p].row P).length : Int) := ln_re _
  by_cases c1 : pickOk B[p].row P = true
  ·by_cases c2 : (pickR B[p].row P).length ≤ 40
   ·have c2' : ((pickR B[p].row P).length : Int) ≤ 40 := by omega
    have hO : (pickL P (B.take p)).map Cnt.e ++ [[PV.lst 39 (re (pickR B[p].row P)), pI B[p].n]] = (pickL P (B.take (p + 1))).map Cnt.e := by
     rw [ht, List.map_append]
     unfold pickC
     rw [if_pos ⟨c1, c2⟩]; rfl
    simp only [rd_zv_43_5, rt_test, rt_next, rt_stop, el_map _ _ h, ln_map, inR_cast, Int.ofNat_lt, h, decide_true, if_true, row0, row1, h1, ok_some', out_some, uB_0, uL_0, uL_s, c1, hl, c2', r2, hO, beq_self_eq_true, w64_succ (i := p) (by omega)]
   ·have c2' : ¬ ((pickR B[p].row P).length : Int) ≤ 40 := by omega
    have hO : (pickL P (B.take (p + 1))) = pickL P (B.take p) := by
     rw [ht]
     unfold pickC
     rw [if_neg fun h => c2 h.2, List.append_nil]
    simp only [rd_zv_43_5, rt_test, rt_next, rt_stop, el_map _ _ h, ln_map, inR_cast, Int.ofNat_lt, h, decide_true, if_true, row0, row1, h1, ok_some', out_some, uB_0, uL_0, uL_s, c1, hl, c2', decide_false, Bool.false_eq_true, if_false, hO, beq_self_eq_true, w64_succ (i := p) (by omega)]
  ·have c1' : pickOk B[p].row P = false := by simpa using c1
   have hO : (pickL P (B.take (p + 1))) = pickL P (B.take p) := by
    rw [ht]
    unfold pickC
    rw [if_neg fun h => c1 h.1, List.append_nil]
   simp only [rd_zv_43_5, rt_test, rt_next, rt_stop, el_map _ _ h, ln_map, inR_cast, Int.ofNat_lt, h, decide_true, if_true, row0, row1, h1, ok_some', out_some, uB_0, uL_0, uL_s, c1', Bool.false_eq_true, if_false, hO, beq_self_eq_true, w64_succ (i := p) (by omega)])
 simp only [List.take_zero, Int.natCast_zero] at h
 exact h

theorem pick_okB {P : List Int} {B : List Cnt} (h : okB B) (h0 : B.length ≤ 1000000) (hP : P.length ≤ 1000000) : okB (pickL P B) := by
 refine ⟨Nat.le_trans (pick_len P B) h.1, fun c hc => ?_⟩
 obtain ⟨b, hb, hc⟩ := List.mem_flatMap.1 hc
 unfold pickC at hc
 split at hc
 ·rename_i hk
  rw [List.mem_singleton] at hc
  subst hc
  refine ⟨⟨by show (pickR b.row P).length ≤ _; omega, fun v hv => ?_⟩, (h.2 b hb).2⟩
  obtain ⟨k, hkm, rfl⟩ := List.mem_map.1 hv
  have hk2 := hk.1
  unfold pickOk at hk2
  have := of_decide_eq_true (List.all_eq_true.1 hk2 k hkm)
  have hlt : k.toNat < b.row.length := by omega
  have e : b.row.getD k.toNat nul = b.row[k.toNat] := by rw [List.getD, List.getElem?_eq_getElem hlt]; rfl
  rw [e]
  exact (h.2 b hb).1.2 _ (List.getElem_mem hlt)
 ·cases hc

theorem PickB_res (n0 n1 w : List UInt8) (i j : Int) (l5 : List (List PV)) (P : List Int) (hP : P.length ≤ 1000000) (b7 : Bool) (l8 : List (List PV)) (B : List Cnt) (hB : okB B) (h0 : B.length ≤ 1000000) :
  (m_zv [.s (bs n0), .s (bs n1), .s (bs w), .i i, .i j, .l l5, .l (P.map kE), .b b7, .l l8, .l (B.map Cnt.e)]).res = some (0, [.l ((pickV P B).map Cnt.e)]) := by
 have h1 := bag_May_res B hB
 by_cases mB : mayB B = true
 ·have h2 := pick_loop (bs n0) (bs n1) (bs w) i j l5 P hP b7 l8 B h0
  have p1 := pick_okB hB h0 hP
  have p2 : absN (pickL P B) ≤ 4611686018427387904 := Nat.le_trans (pick_absN P B) (may_abs mB h0)
  have h3 := Sum_res _ p1 p2
  have h4 := bag_May_res _ (sumB_okB p1 p2)
  by_cases hs : mayB (sumB (pickL P B)) = true
  ·simp only [m_zv, h1, mB, ok_some', out_some, res_test, res_stop, uB_0, Bool.not_true, Bool.false_eq_true, if_false, beq_self_eq_true, if_true, ln_map, h2, uL_0, h3, h4, hs, pickV, and_self]
  ·have hs' : mayB (sumB (pickL P B)) = false := by simpa using hs
   simp only [m_zv, h1, mB, ok_some', out_some, res_test, res_stop, uB_0, Bool.not_true, Bool.not_false, Bool.false_eq_true, if_false, beq_self_eq_true, if_true, ln_map, h2, uL_0, h3, h4, hs', pickV, and_false, List.map_nil]
 ·have mB' : mayB B = false := by simpa using mB
  simp only [m_zv, h1, mB', ok_some', out_some, res_test, res_stop, uB_0, Bool.not_false, Bool.false_eq_true, if_false, beq_self_eq_true, if_true, pickV, false_and, List.map_nil]

theorem pickV_okB {P : List Int} {B : List Cnt} (h : okB B) (h0 : B.length ≤ 1000000) (hP : P.length ≤ 1000000) : okB (pickV P B) ∧ (pickV P B).length ≤ B.length := by
 unfold pickV
 split
 ·rename_i hm
  have p1 := pick_okB h h0 hP
  have p2 : absN (pickL P B) ≤ 4611686018427387904 := Nat.le_trans (pick_absN P B) (may_abs hm.1 h0)
  exact ⟨sumB_okB p1 p2, Nat.le_trans (sumB_len _) (pick_len P B)⟩
 ·exact ⟨⟨by simp, fun c hc => by cases hc⟩, by simp⟩

end Go.Proofs.YtkaljlpbmbfpgaaGreatDoor

set_option linter.unusedVariables false
set_option linter.unusedSimpArgs false
namespace Go.Proofs.YtkaljlpbmbfpgaaGreatDoor
open Go Go.Pu

/-! changes of products -/

end Go.Proofs.YtkaljlpbmbfpgaaGreatDoor

set_option linter.unusedVariables false
set_option linter.unusedSimpArgs false
namespace Go.Proofs.YtkaljlpbmbfpgaaGreatDoor
open Go Go.Pu

section
variable (n0 n1 w : List UInt8) (i j : Int) (E : List Nd) (hE : ∀ d ∈ E, d.ok) (l6 : List (List PV)) (b7 : Bool) (l8 : List (List PV))

/-! what stays -/

end
end Go.Proofs.YtkaljlpbmbfpgaaGreatDoor

set_option linter.unusedVariables false
set_option linter.unusedSimpArgs false
namespace Go.Proofs.YtkaljlpbmbfpgaaGreatDoor
open Go Go.Pu

end Go.Proofs.YtkaljlpbmbfpgaaGreatDoor

set_option linter.unusedVariables false
set_option linter.unusedSimpArgs false
namespace Go.Proofs.YtkaljlpbmbfpgaaGreatDoor
open Go Go.Pu

/-! what the laws say, as plain data -/

section
variable {w : List UInt8} {i j : Int} {f : List Val → Bool × Int} {A dA B dB C : List Cnt}

end

section
variable (n0 n1 w : List UInt8) (i j : Int) (E : List Nd) (hE : ∀ d ∈ E, d.ok) (P : List Int) (b7 : Bool) (l8 : List (List PV)) (A dA B dB : List Cnt) (hA : okB A) (hdA : okB dA) (hB : okB B) (hdB : okB dB)
include hE hA hdA hB hdB

end
end Go.Proofs.YtkaljlpbmbfpgaaGreatDoor

set_option linter.unusedVariables false
set_option linter.unusedSimpArgs false
namespace Go.Proofs.YtkaljlpbmbfpgaaGreatDoor
open Go Go.Pu

/-! what they are handed -/

end Go.Proofs.YtkaljlpbmbfpgaaGreatDoor

set_option linter.unusedVariables false
set_option linter.unusedSimpArgs false
namespace Go.Proofs.YtkaljlpbmbfpgaaGreatDoor
open Go Go.Pu

end Go.Proofs.YtkaljlpbmbfpgaaGreatDoor

set_option linter.unusedVariables false
set_option linter.unusedSimpArgs false
namespace Go.Proofs.YtkaljlpbmbfpgaaGreatDoor
open Go Go.Pu

/-! parts -/

theorem evalV_run {e : List Nd} {row : List Val} (hl : ¬ e.length > 100) (h30 : (evalV e row).2 ≠ 30) : (∃ x, runV row e [] = .ok [x] ∧ evalV e row = (x, 0)) ∨ (∃ f, runV row e [] = .error f ∧ evalV e row = (nul, f) ∧ f ≠ 30) := by
 unfold evalV at *
 rw [if_neg hl] at h30 ⊢
 match hr : runV row e [], h30 with
 | .error f, h30 => exact .inr ⟨f, rfl, rfl, h30⟩
 | .ok [x], _ => exact .inl ⟨x, rfl, rfl⟩
 | .ok [], h30 => exact absurd rfl h30
 | .ok (x :: y :: s), h30 => exact absurd rfl h30

theorem stepV_err {row s : List Val} {d : Nd} {f : Int} (h : stepV row s d = .error f) : f = 30 ∨ f = 31 := by
 have ha : ∀ op a b (s : List Val), appV op a b s = .error f → f = 30 ∨ f = 31 := by
  intro op a b s h
  unfold appV at h
  (repeat' split at h) <;> first | (injection h with h; omega) | cases h
 unfold stepV at h
 (repeat' split at h) <;> first | (injection h with h; omega) | exact ha _ _ _ _ h | cases h
theorem runV_err {row : List Val} : ∀ {e : List Nd} {s : List Val} {f : Int}, runV row e s = .error f → f = 30 ∨ f = 31
 | [], s, f, h => by cases h
 | d :: e, s, f, h => by
  unfold runV at h
  cases hs : stepV row s d with
  | error g => rw [hs] at h; injection h with h; subst h; exact stepV_err hs
  | ok s1 => rw [hs] at h; exact runV_err h

/-- two expressions and a step that takes two -/
theorem parts (a b : List Nd) (op : Int) (row : List Val) (la : a.length ≤ 40) (lb : b.length ≤ 40) (hop : tk op = 2) (ha : (evalV a row).2 ≠ 30) (hb : (evalV b row).2 ≠ 30) :
  ((evalV a row).2 ≠ 0 → (evalV (a ++ b ++ [⟨op, 0, nul⟩]) row).2 = (evalV a row).2) ∧
  ((evalV a row).2 = 0 → (evalV b row).2 ≠ 0 → (evalV (a ++ b ++ [⟨op, 0, nul⟩]) row).2 = (evalV b row).2) ∧
  ((evalV a row).2 = 0 → (evalV b row).2 = 0 → evalV (a ++ b ++ [⟨op, 0, nul⟩]) row = evalV [⟨0, 0, nul⟩, ⟨0, 1, nul⟩, ⟨op, 0, nul⟩] [(evalV a row).1, (evalV b row).1]) := by
 have hlen : ¬ (a ++ b ++ [(⟨op, 0, nul⟩ : Nd)]).length > 100 := by simp; omega
 have g0 : ¬ op = 0 := by rintro rfl; exact absurd hop (by decide)
 have g1 : ¬ op = 1 := by rintro rfl; exact absurd hop (by decide)
 have hev : evalV (a ++ b ++ [⟨op, 0, nul⟩]) row = lastV (runV row (a ++ b ++ [⟨op, 0, nul⟩]) []) := by unfold evalV; rw [if_neg hlen]
 rw [hev, List.append_assoc, runV_app]
 rcases evalV_run (by omega) ha with ⟨x, hx, ex⟩ | ⟨f, hx, ex, nf⟩
 ·rw [hx, ex]
  simp only
  rw [runV_app]
  refine ⟨fun h => absurd rfl h, fun _ hb0 => ?_, fun _ hb0 => ?_⟩
  ·rcases evalV_run (by omega) hb with ⟨y, hy, ey⟩ | ⟨f, hy, ey, nf⟩
   ·rw [ey] at hb0; exact absurd rfl hb0
   ·have h31 : f = 31 := by rcases runV_err hy with h | h; exact absurd h nf; exact h
    subst h31
    have := (runV_under row [x] b []).2 hy
    rw [List.nil_append] at this
    rw [this, ey]; rfl
  ·rcases evalV_run (by omega) hb with ⟨y, hy, ey⟩ | ⟨f, hy, ey, nf⟩
   ·have := (runV_under row [x] b []).1 _ hy
    rw [List.nil_append] at this
    rw [this, ey]
    have s1 : ∀ r, stepV r [y, x] ⟨op, 0, nul⟩ = appV op x y [] := fun r => by unfold stepV; rw [if_neg g0, if_neg g1, if_neg (by show ¬ tk op = 1; omega), if_pos hop]
    have r3 : runV [x, y] [⟨0, 0, nul⟩, ⟨0, 1, nul⟩, ⟨op, 0, nul⟩] [] = runV [x, y] [⟨op, 0, nul⟩] [y, x] := rfl
    show lastV (runV row [⟨op, 0, nul⟩] [y, x]) = _
    unfold evalV
    rw [if_neg (by simp), r3, runV, runV, s1, s1]
    rfl
   ·rw [ey] at hb0
    rcases runV_err hy with h | h
    ·exact absurd h nf
    ·have : f = 0 := hb0
     omega
 ·rw [hx, ex]
  refine ⟨fun _ => rfl, fun h => ?_, fun h => ?_⟩
  ·have : f = 0 := h
   rcases runV_err hx with h | h <;> omega
  ·have : f = 0 := h
   rcases runV_err hx with h | h <;> omega

end Go.Proofs.YtkaljlpbmbfpgaaGreatDoor

set_option linter.unusedVariables false
set_option linter.unusedSimpArgs false
namespace Go.Proofs.YtkaljlpbmbfpgaaGreatDoor
open Go Go.Pu

section
variable (n0 n1 w : List UInt8) (i j : Int) (l5 l6 : List (List PV)) (b7 : Bool) (l8 : List (List PV))

/-! what stays -/

/-! picks -/

end

/-! the law -/

section
variable (n0 n1 w : List UInt8) (i j : Int) (E : List Nd) (hE : ∀ d ∈ E, d.ok) (P : List Int) (b7 : Bool) (l8 : List (List PV))
include hE

end
end Go.Proofs.YtkaljlpbmbfpgaaGreatDoor

set_option linter.unusedVariables false
set_option linter.unusedSimpArgs false
namespace Go.Proofs.YtkaljlpbmbfpgaaGreatDoor
open Go Go.Pu

def satN (x : Int) : Int := if 100001 < x then 100001 else x

theorem sumN_nn {l : List Cnt} (h : ∀ c ∈ l, 0 ≤ c.n) : 0 ≤ sumN l := by
 have := abs_pos h
 omega

theorem all_take {B : List Cnt} {i : Nat} (hi : i ≤ B.length) {p : Cnt → Prop} (h : ∀ j (hj : j < B.length), j < i → p B[j]) : ∀ c ∈ B.take i, p c := by
 intro c hc
 obtain ⟨j, hj, rfl⟩ := List.getElem_of_mem hc
 rw [List.length_take] at hj
 rw [List.getElem_take]
 exact h j (by omega) (by omega)

def nnAt (B : List Cnt) (i : Nat) : Bool := decide (0 ≤ (B.getD i ⟨[], 0⟩).n)
theorem nnAt_at {B : List Cnt} {i : Nat} (h : i < B.length) : nnAt B i = decide (0 ≤ B[i].n) := by
 unfold nnAt; rw [getD_in h]

theorem nn_take {B : List Cnt} {i : Nat} (hi : i ≤ B.length) (h : ∀ j, j < i → nnAt B j = true) : ∀ c ∈ B.take i, 0 ≤ c.n :=
 all_take hi fun j hj hji => by
  have := h j hji
  rw [nnAt_at hj] at this
  exact of_decide_eq_true this

theorem nn_all {B : List Cnt} : (∀ i, i < B.length → nnAt B i = true) → negFree B = true := fun h =>
 negFree_iff.2 fun c hc => by
  obtain ⟨j, hj, rfl⟩ := List.getElem_of_mem hc
  have := h j hj
  rw [nnAt_at hj] at this
  exact of_decide_eq_true this

theorem nn_not {B : List Cnt} {i : Nat} (h : i < B.length) (hn : nnAt B i = false) : negFree B = false := by
 rw [nnAt_at h] at hn
 have hn := of_decide_eq_false hn
 cases e : negFree B with
 | false => rfl
 | true => exact absurd (negFree_iff.1 e _ (List.getElem_mem h)) hn

theorem right_loop (B : List Cnt) (h0 : B.length ≤ 1000000) (hm : ∀ c ∈ B, c.n.natAbs ≤ 1000000000) :
  lres rd_zr_42_5 [.i 0, .b false, .l (B.map Cnt.e), .i (B.length : Nat), .i 0] = if negFree B = true then some (1, [.b (decide (100000 < sumN B))]) else some (0, [.i 1]) := by
 have h := loop_ix B.length (rd := rd_zr_42_5) (fun i => [.i (satN (sumN (B.take i))), .b (decide (100000 < sumN (B.take i))), .l (B.map Cnt.e), .i (B.length : Nat), .i (i : Nat)]) (nnAt B) 0 1 (fun _ => [.i 1]) [.b (decide (100000 < sumN B))] (by simp [rd_zr_42_5]) (by
  intro i h hpre
  have hn := nn_take (Nat.le_of_lt h) hpre
  have hS := sumN_nn hn
  have hB := hm B[i] (List.getElem_mem h)
  have ht := sumN_take' B h
  have row1 : cI B[i].e 1 = B[i].n := rfl
  have hbound : sumN (B.take i) ≤ 1000000000000000 := by
   have h1 := sumN_abs' (B.take i)
   have h2 := absN_take B i
   have h3 := absN_le hm
   have h4 : B.length * 1000000000 ≤ 1000000 * 1000000000 := Nat.mul_le_mul_right _ h0
   omega
  rw [nnAt_at h, ht]
  generalize sumN (B.take i) = S at *
  generalize B[i].n = n at *
  by_cases c0 : n < 0
  ·have c0' : ¬ 0 ≤ n := by omega
   simp only [rd_zr_42_5, rt_test, rt_next, rt_stop, el_map _ _ h, ln_map, inR_cast, Int.ofNat_lt, h, decide_true, if_true, row1, c0, c0', decide_false, Bool.false_eq_true, if_false]
  ·have c0' : 0 ≤ n := by omega
   have k1 : w64 (satN S + if (100001 : Int) < n then 100001 else n) = satN S + if (100001 : Int) < n then 100001 else n := by
    unfold satN
    refine w64_eq ?_ ?_
    ·split <;> split <;> omega
    ·split <;> split <;> omega
   have k2 : (if (100001 : Int) < satN S + (if (100001 : Int) < n then 100001 else n) then 100001 else satN S + (if (100001 : Int) < n then 100001 else n)) = satN (S + n) := by
    unfold satN
    (repeat' split) <;> omega
   have k3 : decide (satN S + (if (100001 : Int) < n then 100001 else n) > 100000) = decide (100000 < S + n) := by
    rw [decide_eq_decide]
    unfold satN
    (repeat' split) <;> omega
   by_cases c1 : 100000 < S
   ·have c2 : 100000 < S + n := by omega
    simp only [rd_zr_42_5, rt_test, rt_next, rt_stop, el_map _ _ h, ln_map, inR_cast, Int.ofNat_lt, h, decide_true, if_true, row1, c0, c0', decide_false, Bool.false_eq_true, if_false, k1, k2, k3, c1, c2, w64_succ (i := i) (by omega)]
   ·simp only [rd_zr_42_5, rt_test, rt_next, rt_stop, el_map _ _ h, ln_map, inR_cast, Int.ofNat_lt, h, decide_true, if_true, row1, c0, c0', decide_false, Bool.false_eq_true, if_false, k1, k2, k3, c1, w64_succ (i := i) (by omega)])
 have e0 : satN (sumN (B.take 0)) = 0 := rfl
 have e1 : decide (100000 < sumN (B.take 0)) = false := rfl
 simp only [e0, e1, Int.natCast_zero] at h
 rcases h with ⟨k1, k2⟩ | ⟨i, k1, k2, _, k3⟩
 ·rw [nn_all k1, if_pos rfl]; exact k2
 ·rw [nn_not k1 k2, if_neg (by simp)]; exact k3

theorem gright_res (B : List Cnt) (hB : okB B) (h0 : B.length ≤ 1000000) : (m_zr [.l (B.map Cnt.e)]).res = some (0, [.i (rightB B)]) := by
 have h1 := bag_May_res B hB
 by_cases mB : mayB B = true
 ·have h2 := right_loop B h0 fun c hc => mayB_n mB hc
  by_cases mN : negFree B = true
  ·rw [mN, if_pos rfl] at h2
   by_cases c : sumN B ≤ 100000
   ·have c' : ¬ 100000 < sumN B := by omega
    simp [m_zr, h1, mB, h2, mN, c, c', rightB]
   ·have c' : 100000 < sumN B := by omega
    simp [m_zr, h1, mB, h2, mN, c, c', rightB]
  ·rw [if_neg mN] at h2
   simp [m_zr, h1, mB, h2, mN, rightB]
 ·simp [m_zr, h1, mB, rightB]

theorem rright_loop (B : List Cnt) (h0 : B.length ≤ 1000000) : lres rd_zbd_20_4 [.l (B.map Cnt.e), .i 0] = if negFree B = true then some (1, [.l (B.map Cnt.e)]) else some (0, [.i 1]) := by
 have h := loop_all' B (rd := rd_zbd_20_4) (fun i => [.l (B.map Cnt.e), .i (i : Nat)]) (fun c => decide (0 ≤ c.n)) 0 1 [.i 1] [.l (B.map Cnt.e)] (by simp [rd_zbd_20_4]) (by
  intro i h
  have row1 : cI B[i].e 1 = B[i].n := rfl
  by_cases c0 : B[i].n < 0
  ·have c0' : ¬ 0 ≤ B[i].n := by omega
   simp [rd_zbd_20_4, el_map _ _ h, h, row1, c0, c0']
  ·have c0' : 0 ≤ B[i].n := by omega
   simp [rd_zbd_20_4, el_map _ _ h, h, row1, c0, c0', w64_succ (i := i) (by omega)])
 exact h

theorem rright_sum (B : List Cnt) (h0 : B.length ≤ 1000000) (hm : ∀ c ∈ B, 0 ≤ c.n ∧ c.n ≤ 1000000000) :
  lres rd_zbd_20_10 [.l (B.map Cnt.e), .i 0, .i 0] = if sumN B ≤ 100000 then some (1, []) else some (0, [.i 100]) := by
 have h := loop_ix B.length (rd := rd_zbd_20_10) (fun i => [.l (B.map Cnt.e), .i (sumN (B.take i)), .i (i : Nat)]) (fun i => decide (sumN (B.take (i + 1)) ≤ 100000)) 0 1 (fun _ => [.i 100]) [] (by simp [rd_zbd_20_10]) (by
  intro i h hpre
  have hS := sumN_nn (l := B.take i) fun c hc => (hm c (List.mem_of_mem_take hc)).1
  have hB := hm B[i] (List.getElem_mem h)
  have row1 : cI B[i].e 1 = B[i].n := rfl
  have hb : sumN (B.take i) ≤ 100000 := by
   cases i with
   | zero => simp [sumN]
   | succ j => exact of_decide_eq_true (hpre j (by omega))
  have hw : w64 (sumN (B.take i) + B[i].n) = sumN (B.take (i + 1)) := by rw [sumN_take' B h]; exact w64_eq (by omega) (by omega)
  by_cases c : sumN (B.take (i + 1)) ≤ 100000
  ·have c' : ¬ sumN (B.take (i + 1)) > 100000 := by omega
   simp only [rd_zbd_20_10, rt_test, rt_next, rt_stop, el_map _ _ h, ln_map, inR_cast, Int.ofNat_lt, h, decide_true, if_true, row1, hw, c, c', decide_false, Bool.false_eq_true, if_false, w64_succ (i := i) (by omega)]
  ·have c' : sumN (B.take (i + 1)) > 100000 := by omega
   simp only [rd_zbd_20_10, rt_test, rt_next, rt_stop, el_map _ _ h, ln_map, inR_cast, Int.ofNat_lt, h, decide_true, if_true, row1, hw, c, c', decide_false, Bool.false_eq_true, if_false])
 have e0 : sumN (B.take 0) = 0 := rfl
 simp only [e0, Int.natCast_zero] at h
 have mono : ∀ j, j ≤ B.length → sumN (B.take j) ≤ sumN B := fun j hj => by
  have h1 : sumN B = sumN (B.take j) + sumN (B.drop j) := by
   rw [← sumN_app', List.take_append_drop]
  have h2 : 0 ≤ sumN (B.drop j) := sumN_nn fun c hc => (hm c (List.mem_of_mem_drop hc)).1
  omega
 rcases h with ⟨k1, k2⟩ | ⟨i, k1, k2, _, k3⟩
 ·have : sumN B ≤ 100000 := by
   cases hl : B.length with
   | zero =>
    have : B = [] := List.length_eq_zero_iff.1 hl
    rw [this]; decide
   | succ m =>
    have := of_decide_eq_true (k1 m (by omega))
    rwa [← hl, List.take_length] at this
  rw [if_pos this]; exact k2
 ·have h1 := of_decide_eq_false k2
  have h2 := mono (i + 1) k1
  rw [if_neg (by omega)]; exact k3

theorem RRight_res (B : List Cnt) (hB : okB B) (h0 : B.length ≤ 1000000) : (m_zbd [.l (B.map Cnt.e)]).res = some (0, [.i (rightB B)]) := by
 have h1 := R05_May_res B hB
 by_cases mB : mayB B = true
 ·have h2 := rright_loop B h0
  by_cases mN : negFree B = true
  ·rw [if_pos mN] at h2
   have h3 := rright_sum B h0 fun c hc => ⟨negFree_iff.1 mN c hc, by have := mayB_n mB hc; omega⟩
   by_cases c : sumN B ≤ 100000
   ·rw [if_pos c] at h3
    simp [m_zbd, h1, mB, h2, h3, mN, c, rightB]
   ·rw [if_neg c] at h3
    simp [m_zbd, h1, mB, h2, h3, mN, c, rightB]
  ·rw [if_neg mN] at h2
   simp [m_zbd, h1, mB, h2, mN, rightB]
 ·simp [m_zbd, h1, mB, rightB]

/-! aggregates -/

def vu (p : Val × Int) : List U := [.i p.1.k, .i p.1.n, .s (bs p.1.s), .i p.2]

theorem lin_bound {g : List Val → Int} {m : Int} : ∀ {b : List Cnt}, (∀ c ∈ b, -m ≤ g c.row ∧ g c.row ≤ m) → (∀ c ∈ b, 0 ≤ c.n) → -(m * sumN b) ≤ lin g b ∧ lin g b ≤ m * sumN b
 | [], _, _ => by simp [lin, sumN]
 | c :: b, hg, h => by
  have ih := lin_bound (b := b) (fun d hd => hg d (List.mem_cons_of_mem _ hd)) fun d hd => h d (List.mem_cons_of_mem _ hd)
  have h3 := h c (List.mem_cons_self ..)
  have h4 := hg c (List.mem_cons_self ..)
  rw [sumN_cons, Int.mul_add]
  simp only [lin]
  have h5 : c.n * g c.row ≤ c.n * m := Int.mul_le_mul_of_nonneg_left h4.2 h3
  have h6 : c.n * -m ≤ c.n * g c.row := Int.mul_le_mul_of_nonneg_left h4.1 h3
  rw [Int.mul_neg, Int.mul_comm c.n m] at h6
  rw [Int.mul_comm c.n m] at h5
  omega

theorem valI_bound {r : List Val} (h : okR r) (col : Int) : -9223372036854775808 ≤ valI col r ∧ valI col r ≤ 9223372036854775808 := by
 have := (atV_ok h col).2.1
 unfold i64 at this
 unfold valI
 split <;> omega

theorem sumN_le {B : List Cnt} (h0 : B.length ≤ 1000000) (hp : ∀ c ∈ B, 1 ≤ c.n ∧ c.n ≤ 1000000000) : 0 ≤ sumN B ∧ sumN B ≤ 1000000000000000 := by
 have h1 := sumN_abs' B
 have h3 := absN_le (b := B) (m := 1000000000) fun c hc => by have := hp c hc; omega
 have h4 : B.length * 1000000000 ≤ 1000000 * 1000000000 := Nat.mul_le_mul_right _ h0
 have h5 := sumN_nn fun c hc => by have := hp c hc; omega
 omega

theorem gagg_res (B : List Cnt) (hB : okB B) (h0 : B.length ≤ 1000000) (hp : ∀ c ∈ B, 1 ≤ c.n ∧ c.n ≤ 1000000000) (fn col : Int) :
  (m_zs [.i fn, .i col, .l (B.map Cnt.e)]).res = some (0, vu (aggV fn col B)) := by
 have hs := sumN_le h0 hp
 have ha : absN B ≤ 4611686018427387904 := by
  have h3 := absN_le (b := B) (m := 1000000000) fun c hc => by have := hp c hc; omega
  have h4 : B.length * 1000000000 ≤ 1000000 * 1000000000 := Nat.mul_le_mul_right _ h0
  omega
 by_cases f0 : fn = 0
 ·subst f0
  have h := agg_count B 0 col 0 0 (bs []) h0 ha (bs [])
  simp only [m_zs, beq_self_eq_true, res_test, res_stop, if_true, ln_map, bs_nil, h, ok_some', out_some, uI_s, uI_0, uS_s, uS_0, vu, aggV]
 ·have f0' : (fn == 0) = false := by simpa using f0
  by_cases f1 : fn = 1
  ·subst f1
   have h := agg_sum B 1 col 0 0 (bs []) h0 hp (fun c hc => (hB.2 c hc).1)
   have hb := lin_bound (g := valI col) (m := 9223372036854775808) (b := B) (fun c hc => valI_bound (hB.2 c hc).1 col) (fun c hc => by have := hp c hc; omega)
   obtain ⟨⟨b1, b2⟩, b3⟩ := bits128 (S := lin (valI col) B) (by omega)
   unfold aggV sumV
   rw [if_neg (by decide), if_pos rfl]
   generalize lin (valI col) B = S at *
   cases hany : anyI col B with
   | false =>
    rw [hany] at h
    simp only [m_zs, f0', beq_self_eq_true, res_test, res_stop, if_true, Bool.false_eq_true, if_false, ln_map, bs_nil, h, ok_some', out_some, uI_s, uI_0, uB_s, uB_0, Bool.not_false, vu, nul]
   | true =>
    rw [hany] at h
    rw [if_pos rfl]
    by_cases cr : -9223372036854775808 ≤ S ∧ S < 9223372036854775808
    ·rw [if_pos cr]
     have b3 := b3 cr
     by_cases c0 : w64 (lo64 S) ≥ 0
     ·have b1 := (b1 c0).2 cr
      have c1 : ¬ w64 (lo64 S) < 0 := by omega
      have c2 : ¬ S < 0 := by omega
      have c3 : S ≥ 0 := by omega
      simp only [m_zs, f0', beq_self_eq_true, res_test, res_stop, if_true, Bool.false_eq_true, if_false, ln_map, bs_nil, h, ok_some', out_some, uI_s, uI_0, uB_s, uB_0, Bool.not_true, vu, b3, b1, c2, c3, decide_true, decide_false, bne_self_eq_false]
     ·have c1 : w64 (lo64 S) < 0 := by omega
      have b2 := (b2 c1).2 cr
      have c2 : S < 0 := by omega
      have c3 : ¬ S ≥ 0 := by omega
      simp only [m_zs, f0', beq_self_eq_true, res_test, res_stop, if_true, Bool.false_eq_true, if_false, ln_map, bs_nil, h, ok_some', out_some, uI_s, uI_0, uB_s, uB_0, Bool.not_true, vu, b3, b2, c2, c3, decide_true, decide_false, bne_self_eq_false]
    ·rw [if_neg cr]
     by_cases c0 : w64 (lo64 S) ≥ 0
     ·have b1 : ¬ hi64 S = 0 := fun e => cr ((b1 c0).1 e)
      have b1' : (hi64 S != 0) = true := by simpa using b1
      simp only [m_zs, f0', beq_self_eq_true, res_test, res_stop, if_true, Bool.false_eq_true, if_false, ln_map, bs_nil, h, ok_some', out_some, uI_s, uI_0, uB_s, uB_0, Bool.not_true, vu, c0, b1', decide_true, nul]
     ·have c1 : w64 (lo64 S) < 0 := by omega
      have b2 : ¬ hi64 S = 18446744073709551615 := fun e => cr ((b2 c1).1 e)
      have b2' : (hi64 S != 18446744073709551615) = true := by simpa using b2
      simp only [m_zs, f0', beq_self_eq_true, res_test, res_stop, if_true, Bool.false_eq_true, if_false, ln_map, bs_nil, h, ok_some', out_some, uI_s, uI_0, uB_s, uB_0, Bool.not_true, vu, c0, c1, b2', decide_true, decide_false, nul]
  ·have f1' : (fn == 1) = false := by simpa using f1
   by_cases f2 : fn = 2
   ·subst f2
    have h := agg_best B 2 col 0 0 (bs []) 1 (.inl rfl) h0 fun c hc => (hp c hc).1
    have e0 : nul.k = 0 := rfl
    have e1 : nul.n = 0 := rfl
    have e2 : nul.s = [] := rfl
    rw [e0, e1, e2] at h
    simp only [m_zs, f0', f1', beq_self_eq_true, res_test, res_stop, if_true, Bool.false_eq_true, if_false, ln_map, bs_nil, h, ok_some', out_some, uI_s, uI_0, uS_s, uS_0, vu, aggV]
    simp
   ·have f2' : (fn == 2) = false := by simpa using f2
    by_cases f3 : fn = 3
    ·subst f3
     have h := agg_best B 3 col 0 0 (bs []) (-1) (.inr rfl) h0 fun c hc => (hp c hc).1
     have e0 : nul.k = 0 := rfl
     have e1 : nul.n = 0 := rfl
     have e2 : nul.s = [] := rfl
     rw [e0, e1, e2] at h
     simp only [m_zs, f0', f1', f2', beq_self_eq_true, res_test, res_stop, if_true, Bool.false_eq_true, if_false, ln_map, bs_nil, h, ok_some', out_some, uI_s, uI_0, uS_s, uS_0, vu, aggV]
     simp
    ·have f3' : (fn == 3) = false := by simpa using f3
     have h := agg_none B fn col 0 0 (bs []) h0 0 0 (bs [])
     simp only [m_zs, f0', f1', f2', f3', beq_self_eq_true, res_test, res_stop, if_true, Bool.false_eq_true, if_false, ln_map, bs_nil, h, ok_some', out_some, uI_s, uI_0, uS_s, uS_0, vu, aggV, f0, f1, f2, f3, nul]

def AggV (fn col : Int) (b : List Cnt) : Val × Int := if rightB b ≠ 0 then (nul, rightB b) else aggV fn col b

theorem right_range {B : List Cnt} (h : rightB B = 0) : ∀ c ∈ B, 1 ≤ c.n ∧ c.n ≤ 1000000000 := fun c hc =>
 ⟨right_pos h c hc, by have := mayB_n (rightB_iff.1 h).1 hc; omega⟩

theorem GAgg_res (B : List Cnt) (hB : okB B) (h0 : B.length ≤ 1000000) (fn col : Int) :
  (m_zt [.i fn, .i col, .l (B.map Cnt.e)]).res = some (0, vu (AggV fn col B)) := by
 have h1 := gright_res B hB h0
 by_cases hr : rightB B = 0
 ·have h2 := gagg_res B hB h0 (right_range hr) fn col
  rw [hr] at h1
  have : AggV fn col B = aggV fn col B := by unfold AggV; rw [if_neg (by simp [hr])]
  rw [this]
  simp only [m_zt, h1, h2, res_test, res_stop, ok_some', out_some, uI_0, beq_self_eq_true, if_true, bne_self_eq_false, Bool.false_eq_true, if_false, vu, uI_s, uS_s, uS_0]
 ·have hr' : (rightB B != 0) = true := by simpa using hr
  have : AggV fn col B = (nul, rightB B) := by unfold AggV; rw [if_pos hr]
  rw [this]
  simp only [m_zt, h1, res_test, res_stop, ok_some', out_some, uI_0, beq_self_eq_true, if_true, hr', vu, nul, bs_nil]

/-! the document's -/

end Go.Proofs.YtkaljlpbmbfpgaaGreatDoor

set_option linter.unusedVariables false
set_option linter.unusedSimpArgs false
namespace Go.Proofs.YtkaljlpbmbfpgaaGreatDoor
open Go Go.Pu

theorem Join1_res (a : List Val) (ha : a.length ≤ 1000000) : (m_zaa [.l [[.lst 39 (re a)]]]).res = some (0, [.l (re a)]) := by
 have h := Concat_res [a] (by simp) (by simp [lens]; omega)
 rw [show [a].map reR = [[PV.lst 39 (re a)]] from rfl] at h
 simp only [m_zaa, h, ok_some', out_some, res_test, res_stop, uL_0, beq_self_eq_true, if_true]
 simp

theorem txtR_inj {a b : List Val} (ha : a.all mayV = true) (hb : b.all mayV = true) (h : txtR a = txtR b) : a = b := by
 have := txtR_split (x := []) (y := []) ha hb (by rw [h])
 exact this.1

def hasT (pk : List Int) (k : List UInt8) (c : Cnt) : Bool := pickOk c.row pk && decide (txtR (pickR c.row pk) = k)

theorem pickR_may {r : List Val} (h : r.all mayV = true) {pk : List Int} (hk : pickOk r pk = true) : (pickR r pk).all mayV = true := by
 rw [List.all_eq_true]
 intro v hv
 obtain ⟨k, hkm, rfl⟩ := List.mem_map.1 hv
 unfold pickOk at hk
 have := of_decide_eq_true (List.all_eq_true.1 hk k hkm)
 have hlt : k.toNat < r.length := by omega
 have e : r.getD k.toNat nul = r[k.toNat] := by rw [List.getD, List.getElem?_eq_getElem hlt]; rfl
 rw [e]
 exact List.all_eq_true.1 h _ (List.getElem_mem hlt)

theorem mayR_all {r : List Val} (h : mayR r = true) : r.all mayV = true := by
 unfold mayR at h; rw [Bool.and_eq_true] at h; exact h.2

theorem hasT_in {pk : List Int} {k : List Val} (hk : k.all mayV = true) {B : List Cnt} (hm : mayB B = true) : B.filter (hasT pk (txtR k)) = inB pk k B := by
 unfold inB
 refine List.filter_congr fun c hc => ?_
 unfold hasT
 cases ho : pickOk c.row pk with
 | false => rfl
 | true =>
  simp only [Bool.true_and]
  rw [decide_eq_decide]
  exact ⟨txtR_inj (pickR_may (mayR_all (mayB_row hm hc)) ho) hk, fun h => by rw [h]⟩

theorem pick_okT {r : List Val} (h : mayR r = true) (ho : okR r) {pk : List Int} (hk : pickOk r pk = true) (hp : pk.length ≤ 200) : okT (pickR r pk) := by
 have hall := List.all_eq_true.1 (pickR_may (mayR_all h) hk)
 refine ⟨fun v hv => ?_, by simp [pickR]; exact hp, fun v hv => by have := may_len (hall v hv); omega⟩
 obtain ⟨k, hkm, rfl⟩ := List.mem_map.1 hv
 unfold pickOk at hk
 have := of_decide_eq_true (List.all_eq_true.1 hk k hkm)
 have hlt : k.toNat < r.length := by omega
 have e : r.getD k.toNat nul = r[k.toNat] := by rw [List.getD, List.getElem?_eq_getElem hlt]; rfl
 rw [e]
 exact ho.2 _ (List.getElem_mem hlt)

section
variable (s0 s1 s2 : ByteArray) (i j : Int) (l8 : List (List PV)) (pk : List Int) (g : Bool) (l11 : List (List PV))

theorem in_loop (B : List Cnt) (hB : okB B) (hm : mayB B = true) (h0 : B.length ≤ 1000000) (hp : pk.length ≤ 200) (K : List (List PV)) : ∀ m p (es : List (List PV)), B.length - p = m → p ≤ B.length → (∀ k, lkM es (bs k) = ((B.take p).filter (hasT pk k)).map Cnt.e) →
  ∃ es', lres rd_zab_15_9 [.l (B.map Cnt.e), .i (B.length : Nat), .i (p : Nat), .s s0, .s s1, .s s2, .i i, .i j, .l l8, .l (pk.map kE), .b g, .l l11, .l K, .l es] = some (0, [.s s0, .s s1, .s s2, .i i, .i j, .l l8, .l (pk.map kE), .b g, .l l11, .l K, .l es']) ∧ ∀ k, lkM es' (bs k) = (B.filter (hasT pk k)).map Cnt.e := by
 intro m
 induction m with
 | zero =>
  intro p es hi hle he
  have : p = B.length := by omega
  subst this
  refine ⟨es, lres_stop (by simp [rd_zab_15_9]), fun k => ?_⟩
  rw [he, List.take_length]
 | succ m ih =>
  intro p es hi hle he
  have h : p < B.length := by omega
  have hc := hB.2 B[p] (List.getElem_mem h)
  have hmr := mayB_row hm (List.getElem_mem h)
  have h1 := Pick_res B[p].row pk (by omega)
  have ht := take_cnt B h
  have row0 : cL B[p].e 0 = re B[p].row := rfl
  have row1 : cI B[p].e 1 = B[p].n := rfl
  by_cases hk : pickOk B[p].row pk = true
  ·have h2 := rowText_res (pickR B[p].row pk) (pick_okT hmr hc.1 hk hp)
   have hlen : ((lkM es (bs (txtR (pickR B[p].row pk)))).length + 1) * 32 ≤ 140737488355328 := by
    rw [he, List.length_map]
    have h3 := List.length_filter_le (hasT pk (txtR (pickR B[p].row pk))) (B.take p)
    rw [List.length_take] at h3
    omega
   obtain ⟨es', e1, e2⟩ := ih (p + 1) (putM es (bs (txtR (pickR B[p].row pk))) (PV.lst 49 (lkM es (bs (txtR (pickR B[p].row pk))) ++ [[PV.lst 39 (re B[p].row), pI B[p].n]]))) (by omega) (by omega) fun k => by
    rw [lk_put, he, he, ht, List.filter_append]
    by_cases e : bs k = bs (txtR (pickR B[p].row pk))
    ·have e' := bs_inj e
     have : hasT pk k B[p] = true := by simp [hasT, hk, e']
     rw [if_pos e, ← e']
     simp [List.filter_cons, this, Cnt.e]
    ·have : hasT pk k B[p] = false := by
      simp only [hasT, hk, Bool.true_and, decide_eq_false_iff_not]
      exact fun h4 => e (by rw [h4])
     rw [if_neg e]
     simp [List.filter_cons, this]
   refine ⟨es', ?_, e2⟩
   rw [← e1]
   refine lres_next ?_
   simp only [rd_zab_15_9, rt_test, rt_next, el_map _ _ h, ln_map, inR_cast, Int.ofNat_lt, h, decide_true, if_true, row0, row1, h1, h2, hk, ok_some', out_some, uB_0, uL_s, uL_0, uS_0, beq_self_eq_true, hlen, w64_succ (i := p) (by omega)]
  ·have hk' : pickOk B[p].row pk = false := by simpa using hk
   obtain ⟨es', e1, e2⟩ := ih (p + 1) es (by omega) (by omega) fun k => by
    rw [he, ht, List.filter_append]
    have : hasT pk k B[p] = false := by simp [hasT, hk']
    simp [List.filter_cons, this]
   refine ⟨es', ?_, e2⟩
   rw [← e1]
   refine lres_next ?_
   simp only [rd_zab_15_9, rt_test, rt_next, el_map _ _ h, ln_map, inR_cast, Int.ofNat_lt, h, decide_true, if_true, row0, row1, h1, hk', ok_some', out_some, uB_0, Bool.false_eq_true, if_false, beq_self_eq_true, w64_succ (i := p) (by omega)]

theorem aggs_loop (nk kx : Int) (ag : List Ag) (hag : ag.length ≤ 1000000) (es O : List (List PV)) (k : List Val) (hk : okT k) (kn : Int) (K : List (List PV)) (b : List Cnt) (hb : okB b) (hl : b.length ≤ 1000000) (hp : ∀ c ∈ b, 1 ≤ c.n ∧ c.n ≤ 1000000000) (hes : lkM es (bs (txtR k)) = b.map Cnt.e) :
  ∀ (rest pre : List Ag), ag = pre ++ rest → ∀ (acc : List Val), acc.length ≤ 1000 + pre.length →
  lres rd_zab_15_23 [.i nk, .i kx, .l (ag.map Ag.e), .i (ag.length : Nat), .i (pre.length : Nat), .s s0, .s s1, .s s2, .i i, .i j, .l l8, .l (pk.map kE), .b g, .l (ag.map Ag.e), .l es, .l O, .l (re k), .i kn, .l (re acc), .l K] =
   if (aggsV b rest).2 ≠ 0 then some (0, [.i (aggsV b rest).2]) else some (1, [.i nk, .i kx, .s s0, .s s1, .s s2, .i i, .i j, .l l8, .l (pk.map kE), .b g, .l (ag.map Ag.e), .l es, .l O, .l (re (acc ++ (aggsV b rest).1)), .l K]) := by
 intro rest
 induction rest with
 | nil =>
  intro pre he acc ha
  have e : pre.length = ag.length := by rw [he]; simp
  rw [show (aggsV b []) = ([], 0) from rfl, if_neg (by simp), List.append_nil, e]
  exact lres_stop (by simp [rd_zab_15_23])
 | cons a rest ih =>
  intro pre he acc ha
  have hlen : ag.length = pre.length + (rest.length + 1) := by rw [he]; simp
  have h : pre.length < ag.length := by omega
  have hat : ag[pre.length] = a := by subst he; simp
  have h1 := rowText_res k hk
  have h2 := gagg_res b hb hl hp a.f a.c
  have h3 : cI (Ag.e ag[pre.length]) 0 = a.f := by rw [hat]; rfl
  have h4 : cI (Ag.e ag[pre.length]) 1 = a.c := by rw [hat]; rfl
  by_cases c : (aggV a.f a.c b).2 = 0
  ·have c' : ((aggV a.f a.c b).2 != 0) = false := by simpa using c
   have hw : ((re acc).length + 1) * 32 ≤ 140737488355328 := by simp [re]; omega
   have hre : re acc ++ [[pI (aggV a.f a.c b).1.k, pI (aggV a.f a.c b).1.n, pS (bs (aggV a.f a.c b).1.s)]] = re (acc ++ [(aggV a.f a.c b).1]) := by simp [re, Val.e]
   have := ih (pre ++ [a]) (by simp [he]) (acc ++ [(aggV a.f a.c b).1]) (by simp; omega)
   rw [show ((pre ++ [a]).length : Int) = ((pre.length + 1 : Nat) : Int) by simp] at this
   rw [lres_next (us' := [.i nk, .i kx, .l (ag.map Ag.e), .i (ag.length : Nat), .i ((pre.length + 1 : Nat) : Int), .s s0, .s s1, .s s2, .i i, .i j, .l l8, .l (pk.map kE), .b g, .l (ag.map Ag.e), .l es, .l O, .l (re k), .i kn, .l (re (acc ++ [(aggV a.f a.c b).1])), .l K]) (by
    simp only [rd_zab_15_23, rt_test, rt_next, rt_stop, el_map _ _ h, ln_map, inR_cast, Int.ofNat_lt, h, decide_true, if_true, h3, h4, h1, hes, h2, ok_some', out_some, uS_0, uS_s, uI_s, uI_0, vu, beq_self_eq_true, c', Bool.false_eq_true, if_false, hw, hre, w64_succ (i := pre.length) (by omega)]), this]
   by_cases c2 : (aggsV b rest).2 ≠ 0
   ·rw [aggsV_late c c2, if_pos c2, if_pos c2]
   ·rw [aggsV_good c c2, if_neg c2, if_neg (by simp)]
    simp
  ·have c' : ((aggV a.f a.c b).2 != 0) = true := by simpa using c
   rw [aggsV_bad c, if_pos c]
   exact lres_stop (by
    simp only [rd_zab_15_23, rt_test, rt_next, rt_stop, el_map _ _ h, ln_map, inR_cast, Int.ofNat_lt, h, decide_true, if_true, h3, h4, h1, hes, h2, ok_some', out_some, uS_0, uS_s, uI_s, uI_0, vu, beq_self_eq_true, c'])

theorem keys_loop (ag : List Ag) (hag : ag.length ≤ 1000000) (B : List Cnt) (hB : okB B) (h0 : B.length ≤ 1000000) (hr : rightB B = 0) (es : List (List PV)) (hes : ∀ k : List Val, k.all mayV = true → lkM es (bs (txtR k)) = (inB pk k B).map Cnt.e)
  (K : List Cnt) (hK : K.length ≤ 1000000) (hKr : ∀ c ∈ K, mayR c.row = true ∧ okR c.row ∧ c.row.length + ag.length ≤ 40) :
  ∀ (rest pre : List Cnt), K = pre ++ rest → ∀ (O : List Cnt), O.length ≤ pre.length →
  lres rd_zab_15_17 [.i (K.length : Nat), .i (pre.length : Nat), .s s0, .s s1, .s s2, .i i, .i j, .l l8, .l (pk.map kE), .b g, .l (ag.map Ag.e), .l es, .l (O.map Cnt.e), .l (K.map Cnt.e)] =
   if (groupF pk ag B (rest.map Cnt.row)).2 ≠ 0 then some (0, [.i (groupF pk ag B (rest.map Cnt.row)).2]) else some (1, [.l ((O ++ (groupF pk ag B (rest.map Cnt.row)).1).map Cnt.e)]) := by
 intro rest
 induction rest with
 | nil =>
  intro pre he O hO
  have e : pre.length = K.length := by rw [he]; simp
  rw [show groupF pk ag B ([].map Cnt.row) = ([], 0) from rfl, if_neg (by simp), List.append_nil, e]
  exact lres_stop (by simp [rd_zab_15_17])
 | cons c rest ih =>
  intro pre he O hO
  have hlen : K.length = pre.length + (rest.length + 1) := by rw [he]; simp
  have h : pre.length < K.length := by omega
  have hat : K[pre.length] = c := by subst he; simp
  obtain ⟨m1, m2, m3⟩ := hKr c (by rw [he]; simp)
  have row0 : cL (Cnt.e K[pre.length]) 0 = re c.row := by rw [hat]; rfl
  have row1 : cI (Cnt.e K[pre.length]) 1 = c.n := by rw [hat]; rfl
  have hall := mayR_all m1
  have hT : okT c.row := ⟨m2.2, by omega, fun v hv => by have := may_len (List.all_eq_true.1 hall v hv); omega⟩
  have hsub : ∀ x ∈ inB pk c.row B, x ∈ B := fun x hx => (List.mem_filter.1 hx).1
  have hbl : (inB pk c.row B).length ≤ B.length := List.length_filter_le _ _
  have h1 := Join1_res c.row (by omega)
  have h2 := aggs_loop s0 s1 s2 i j l8 pk g (K.length : Nat) (pre.length : Nat) ag hag es (O.map Cnt.e) c.row hT c.n (K.map Cnt.e) (inB pk c.row B) ⟨by have := hB.1; omega, fun x hx => hB.2 x (hsub x hx)⟩ (by omega) (fun x hx => right_range hr x (hsub x hx)) (hes c.row hall) ag [] rfl c.row (by simp; omega)
  have hlt : Int.toNat ((pre.length : Nat) : Int) < (K.map Cnt.e).length := by simp; exact h
  have hno : ¬ w64 (ln (re c.row) + (ag.length : Int)) > 40 := by
   rw [ln_re, w64_eq (by omega) (by omega)]; omega
  simp only [List.length_nil, Int.natCast_zero] at h2
  rw [List.map_cons]
  by_cases k0 : (aggsV (inB pk c.row B) ag).2 ≠ 0
  ·rw [if_pos k0] at h2
   rw [groupF_bad k0, if_pos k0]
   exact lres_stop (by
    simp only [rd_zab_15_17, rt_test, rt_next, rt_stop, el_map _ _ h, ln_map, inR_cast, Int.ofNat_lt, h, hlt, decide_true, if_true, row0, row1, hno, decide_false, Bool.false_eq_true, if_false, h1, h2, ok_some', out_some, uL_0, uI_0, beq_self_eq_true])
  ·rw [if_neg k0] at h2
   have := ih (pre ++ [c]) (by simp [he]) (O ++ [⟨c.row ++ (aggsV (inB pk c.row B) ag).1, 1⟩]) (by simp; omega)
   rw [show ((pre ++ [c]).length : Int) = ((pre.length + 1 : Nat) : Int) by simp] at this
   have hw : ((O.map Cnt.e).length + 1) * 32 ≤ 140737488355328 := by simp; omega
   have hO2 : O.map Cnt.e ++ [[PV.lst 39 (re (c.row ++ (aggsV (inB pk c.row B) ag).1)), pI 1]] = (O ++ [(⟨c.row ++ (aggsV (inB pk c.row B) ag).1, 1⟩ : Cnt)]).map Cnt.e := by simp [Cnt.e]
   have n01 : ((1 : Nat) == 0) = false := rfl
   have n10 : ((0 : Nat) == 1) = false := rfl
   rw [lres_next (us' := [.i (K.length : Nat), .i ((pre.length + 1 : Nat) : Int), .s s0, .s s1, .s s2, .i i, .i j, .l l8, .l (pk.map kE), .b g, .l (ag.map Ag.e), .l es, .l ((O ++ [(⟨c.row ++ (aggsV (inB pk c.row B) ag).1, 1⟩ : Cnt)]).map Cnt.e), .l (K.map Cnt.e)]) (by
    simp only [rd_zab_15_17, rt_test, rt_next, rt_stop, el_map _ _ h, ln_map, inR_cast, Int.ofNat_lt, h, hlt, decide_true, if_true, row0, row1, hno, decide_false, Bool.false_eq_true, if_false, h1, h2, ok_some', out_some, n01, n10, uL_0, uI_0, uI_s, uL_s, uS_s, uS_0, uB_s, uB_0, beq_self_eq_true, hw, hO2, w64_succ (i := pre.length) (by omega)]), this]
   by_cases c2 : (groupF pk ag B (rest.map Cnt.row)).2 ≠ 0
   ·rw [groupF_late k0 c2, if_pos c2, if_pos c2]
   ·rw [groupF_good k0 c2, if_neg c2, if_neg (by simp)]
    simp

theorem GRows_res (n0 n1 w : List UInt8) (ag : List Ag) (hag : ag.length ≤ 1000000) (hp : pk.length ≤ 200) (B : List Cnt) (hB : okB B) (h0 : B.length ≤ 1000000) :
  (m_zab [.s (bs n0), .s (bs n1), .s (bs w), .i i, .i j, .l l8, .l (pk.map kE), .b g, .l (ag.map Ag.e), .l (B.map Cnt.e)]).res = some (0, [.i (groupV pk g ag B).2, .l ((groupV pk g ag B).1.map Cnt.e)]) := by
 have h1 := gright_res B hB h0
 unfold groupV
 by_cases hr : rightB B = 0
 ·rw [if_neg (by simp [hr])]
  rw [hr] at h1
  have hm := (rightB_iff.1 hr).1
  have h2 := PickB_res n0 n1 w i j l8 pk (by omega) g (ag.map Ag.e) B hB h0
  cases g with
  | false =>
   rw [if_pos rfl]
   simp only [m_zab, h1, h2, res_test, res_stop, ok_some', out_some, uI_0, uL_0, beq_self_eq_true, if_true, bne_self_eq_false, Bool.not_false, Bool.false_eq_true, if_false]
  | true =>
   rw [if_neg (by simp)]
   obtain ⟨es, h3, h4⟩ := in_loop (bs n0) (bs n1) (bs w) i j l8 pk true (ag.map Ag.e) B hB hm h0 hp ((pickV pk B).map Cnt.e) B.length 0 [] (by omega) (by omega) fun k => rfl
   have hes : ∀ k : List Val, k.all mayV = true → lkM es (bs (txtR k)) = (inB pk k B).map Cnt.e := fun k hk => by rw [h4, hasT_in hk hm]
   have hKo := pickV_okB hB h0 (by omega : pk.length ≤ 1000000)
   have hKl : ∀ c ∈ pickV pk B, c.row.length = pk.length ∧ c.row.length ≤ 40 := fun c hc => by
    obtain ⟨_, _, _, _, e1, e2⟩ := key_of (pk := pk) (b := B) (List.mem_map.2 ⟨c, hc, rfl⟩)
    exact ⟨e1, e2⟩
   simp only [Int.natCast_zero] at h3
   by_cases ht : pickV pk B ≠ [] ∧ 40 < pk.length + ag.length
   ·rw [if_pos ht]
    obtain ⟨c, K, hK⟩ := List.exists_cons_of_ne_nil ht.1
    have hc := hKl c (by rw [hK]; simp)
    have h5 : lres rd_zab_15_17 [.i ((pickV pk B).length : Nat), .i 0, .s (bs n0), .s (bs n1), .s (bs w), .i i, .i j, .l l8, .l (pk.map kE), .b true, .l (ag.map Ag.e), .l es, .l [], .l ((pickV pk B).map Cnt.e)] = some (0, [.i 100]) := by
     have hln : (pickV pk B).length = K.length + 1 := by rw [hK]; rfl
     have e0 : el ((pickV pk B).map Cnt.e) 0 = Cnt.e c := by rw [hK]; rfl
     have e1 : inR 0 (((K.length + 1 : Nat)) : Int) = true := inR_iff.2 ⟨by omega, by omega⟩
     have e2 : (0 : Int) < ((K.length + 1 : Nat) : Int) := by omega
     have e3 : Int.toNat 0 < ((pickV pk B).map Cnt.e).length := by rw [List.length_map, hln]; exact Nat.succ_pos _
     have row0 : cL (Cnt.e c) 0 = re c.row := rfl
     have hno : w64 (ln (re c.row) + (ag.length : Int)) > 40 := by
      rw [ln_re, w64_eq (by omega) (by omega)]; omega
     exact lres_stop (by
      simp only [rd_zab_15_17, rt_test, rt_next, rt_stop, ln_map, hln, e0, e1, e2, e3, decide_true, if_true, row0, hno])
    simp only [m_zab, h1, h2, h3, h5, res_test, res_stop, ok_some', out_some, uI_0, uI_s, uL_0, uL_s, uS_0, uS_s, uB_0, uB_s, ln_map, beq_self_eq_true, if_true, bne_self_eq_false, Bool.not_true, Bool.false_eq_true, if_false, List.map_nil]
   ·rw [if_neg ht]
    have hKr : ∀ c ∈ pickV pk B, mayR c.row = true ∧ okR c.row ∧ c.row.length + ag.length ≤ 40 := fun c hc => by
     refine ⟨mayB_row (pickV_may pk B) hc, (hKo.1.2 c hc).1, ?_⟩
     have e := hKl c hc
     have : ¬ 40 < pk.length + ag.length := fun h => ht ⟨List.ne_nil_of_mem hc, h⟩
     omega
    have h5 := keys_loop (bs n0) (bs n1) (bs w) i j l8 pk true ag hag B hB h0 hr es hes (pickV pk B) (by omega) hKr (pickV pk B) [] rfl [] (by simp)
    simp only [List.length_nil, Int.natCast_zero, List.nil_append, List.map_nil] at h5
    have n01 : ((1 : Nat) == 0) = false := rfl
    have n10 : ((0 : Nat) == 1) = false := rfl
    unfold keysB
    by_cases c2 : (groupF pk ag B ((pickV pk B).map Cnt.row)).2 ≠ 0
    ·rw [if_pos c2] at h5
     rw [groupF_err c2]
     simp only [m_zab, h1, h2, h3, h5, res_test, res_stop, ok_some', out_some, uI_0, uI_s, uL_0, uL_s, uS_0, uS_s, uB_0, uB_s, ln_map, beq_self_eq_true, if_true, bne_self_eq_false, Bool.not_true, Bool.false_eq_true, if_false, List.map_nil]
    ·rw [if_neg c2] at h5
     have c3 : (groupF pk ag B ((pickV pk B).map Cnt.row)).2 = 0 := by simpa using c2
     rw [c3]
     simp only [m_zab, h1, h2, h3, h5, n01, n10, res_test, res_stop, ok_some', out_some, uI_0, uI_s, uL_0, uL_s, uS_0, uS_s, uB_0, uB_s, ln_map, beq_self_eq_true, if_true, bne_self_eq_false, Bool.not_true, Bool.false_eq_true, if_false]
 ·rw [if_pos hr]
  have hr' : (rightB B != 0) = true := by simpa using hr
  simp only [m_zab, h1, res_test, res_stop, ok_some', out_some, uI_0, beq_self_eq_true, if_true, hr', List.map_nil]

end

end Go.Proofs.YtkaljlpbmbfpgaaGreatDoor

set_option linter.unusedVariables false
set_option linter.unusedSimpArgs false
namespace Go.Proofs.YtkaljlpbmbfpgaaGreatDoor
open Go Go.Pu

section
variable (s0 s1 s2 : ByteArray) (i j : Int) (l8 : List (List PV)) (pk : List Int) (g : Bool) (l11 : List (List PV))

end

end Go.Proofs.YtkaljlpbmbfpgaaGreatDoor

set_option linter.unusedVariables false
set_option linter.unusedSimpArgs false
namespace Go.Proofs.YtkaljlpbmbfpgaaGreatDoor
open Go Go.Pu

/-! groups' rows are good rows -/

theorem two_ok {n : Int} (h : i64 n) : Val.ok ⟨2, n, []⟩ := ⟨show i64 2 by unfold i64; decide, h, show ([] : List UInt8).length ≤ big by decide⟩

theorem aggV_ok {b : List Cnt} (hb : okB b) (hr : rightB b = 0) (fn col : Int) : (aggV fn col b).1.ok := by
 have hs := (rightB_iff.1 hr).2.2
 have h0 := sumN_nn fun c hc => negFree_iff.1 (rightB_iff.1 hr).2.1 c hc
 have best : ∀ s, (bestV s col b nul).ok := fun s => by
  rcases bestV_mem s col b nul with h | ⟨c, hc, h⟩
  ·rw [h]; exact nul_ok
  ·rw [h]; exact atV_ok (hb.2 c hc).1 col
 unfold aggV
 split
 ·exact two_ok (by unfold i64; omega)
 ·split
  ·unfold sumV
   split
   ·split
    ·rename_i h; exact two_ok h
    ·exact nul_ok
   ·exact nul_ok
  ·split
   ·exact best 1
   ·split
    ·exact best (-1)
    ·exact nul_ok

/-! what the document fixes -/

def okVb (v : Val) : Bool := decide (-9223372036854775808 ≤ v.k ∧ v.k < 9223372036854775808) && decide (-9223372036854775808 ≤ v.n ∧ v.n < 9223372036854775808) && decide (v.s.length ≤ 1000)
def okBb (b : List Cnt) : Bool := decide (b.length ≤ 1000) && b.all fun c => decide (c.row.length ≤ 1000) && c.row.all okVb && decide (-9223372036854775808 ≤ c.n ∧ c.n < 9223372036854775808)
theorem okB_dec {b : List Cnt} (h : okBb b = true) : okB b := by
 unfold okBb at h
 simp only [Bool.and_eq_true, decide_eq_true_eq, List.all_eq_true] at h
 refine ⟨by omega, fun c hc => ?_⟩
 obtain ⟨⟨h1, h2⟩, h3⟩ := h.2 c hc
 refine ⟨⟨by omega, fun v hv => ?_⟩, h3⟩
 have := h2 v hv
 unfold okVb at this
 simp only [Bool.and_eq_true, decide_eq_true_eq] at this
 exact ⟨this.1.1, this.1.2, by unfold big; omega⟩

def someB : List Cnt := [⟨[⟨2, 1, []⟩, ⟨2, 5, []⟩], 1⟩, ⟨[⟨2, 1, []⟩, ⟨2, 7, []⟩], 1⟩, ⟨[⟨2, 2, []⟩, nul], 1⟩]
def twelveB : List Cnt := [⟨[⟨2, 1, []⟩, ⟨2, 2, []⟩, ⟨2, 12, []⟩], 1⟩, ⟨[⟨2, 2, []⟩, ⟨2, 1, []⟩, nul], 1⟩]
def mostB : List Cnt := [⟨[⟨2, 9223372036854775807, []⟩], 2⟩]

theorem some_res : (m_zap []).res = some (0, [.l (someB.map Cnt.e)]) := by
 have h := R05_Of_res [[⟨2, 1, []⟩, ⟨2, 5, []⟩], [⟨2, 1, []⟩, ⟨2, 7, []⟩], [⟨2, 2, []⟩, nul]] (by decide) (by
  intro r hr
  refine (okB_dec (b := someB) (by kernel_rfl)).2 ⟨r, 1⟩ ?_ |>.1
  simp only [List.mem_cons, List.mem_nil_iff, or_false] at hr
  rcases hr with rfl | rfl | rfl <;> simp [someB])
 have e : ofB [[⟨2, 1, []⟩, ⟨2, 5, []⟩], [⟨2, 1, []⟩, ⟨2, 7, []⟩], [⟨2, 2, []⟩, nul]] = someB := by kernel_rfl
 rw [e] at h
 have h : (m_zao [.l [[PV.lst 39 [[pI 2, pI 1, pS { data := #[] }], [pI 2, pI 5, pS { data := #[] }]]], [PV.lst 39 [[pI 2, pI 1, pS { data := #[] }], [pI 2, pI 7, pS { data := #[] }]]], [PV.lst 39 [[pI 2, pI 2, pS { data := #[] }], [pI 0, pI 0, pS { data := #[] }]]]]]).res = some (0, [.l (someB.map Cnt.e)]) := h
 simp only [m_zap, h, res_test, res_stop, ok_some', out_some, uL_0, beq_self_eq_true, if_true]

theorem gfixed_res : (m_zbx []).res = some (0, [.b true]) := by
 have oS : okB someB := okB_dec (by kernel_rfl)
 have hag : ([⟨0, 0⟩, ⟨1, 1⟩] : List Ag).map Ag.e = [[pI 0, pI 0], [pI 1, pI 1]] := rfl
 have hpk : ([0] : List Int).map kE = [[pI 0]] := rfl
 have h1 := GRows_res 0 0 [] [0] true [] [] [] [⟨0, 0⟩, ⟨1, 1⟩] (by decide) (by decide) someB oS (by decide)
 have e1 : groupV [0] true [⟨0, 0⟩, ⟨1, 1⟩] someB = (twelveB, 0) := by kernel_rfl
 have h2 := GAgg_res someB oS (by decide) 3 1
 have e2 : AggV 3 1 someB = (⟨2, 7, []⟩, 0) := by kernel_rfl
 have h3 := GAgg_res mostB (okB_dec (by kernel_rfl)) (by decide) 1 0
 have e3 : AggV 1 0 mostB = (nul, 110) := by kernel_rfl
 have hm : mostB.map Cnt.e = [[PV.lst 39 [[pI 2, pI 9223372036854775807, pS (bs [])]], pI 2]] := rfl
 have h4 := RNeg_res someB (by decide) oS
 have e4 : turnB someB = negB someB := by kernel_rfl
 have h5 := GRows_res 0 0 [] [0] true [] [] [] [⟨0, 0⟩, ⟨1, 1⟩] (by decide) (by decide) (negB someB) (okB_dec (by kernel_rfl)) (by decide)
 have e5 : groupV [0] true [⟨0, 0⟩, ⟨1, 1⟩] (negB someB) = ([], 1) := by kernel_rfl
 have h6 := RbagText_res twelveB (okB_dec (by kernel_rfl)) (by decide)
 have e6 : (if mayB twelveB = true then txtB twelveB else []) = [40, 49, 44, 32, 50, 44, 32, 49, 50, 41, 32, 40, 50, 44, 32, 49, 44, 32, 110, 117, 108, 108, 41] := by kernel_rfl
 rw [e1, hag, hpk] at h1
 rw [e2] at h2
 rw [e3, hm] at h3
 rw [e4] at h4
 rw [e5, hag, hpk] at h5
 rw [e6] at h6
 simp only [m_zbx, some_res, bs_nil, h1, h2, h3, h4, h5, h6, vu, nul, res_test, res_stop, ok_some', out_some, uL_0, uL_s, uI_0, uI_s, uS_s, uS_0, bs_toList, beq_self_eq_true, if_true, Bool.and_self]

section
variable (n0 n1 w : List UInt8) (i j : Int) (l5 : List (List PV))

end

/-- without picks all rows are in one group -/
theorem pickL_nil : ∀ (B : List Cnt), pickL [] B = B.map fun c => ⟨[], c.n⟩
 | [] => rfl
 | c :: B => by
  have : pickL [] (c :: B) = pickC [] c ++ pickL [] B := rfl
  rw [this, pickL_nil B]; rfl

theorem inB_nil (B : List Cnt) : inB [] [] B = B := by
 unfold inB
 rw [List.filter_eq_self]
 intro c _
 rfl

theorem canon_one {b : List Cnt} (h : canon b) (hr : ∀ c ∈ b, c.row = []) (hn : b ≠ []) : b.map Cnt.row = [[]] := by
 match b, hn with
 | [c], _ => rw [List.map_cons, hr c (List.mem_cons_self ..)]; rfl
 | c :: d :: b, _ =>
  have h1 := (List.pairwise_cons.1 h.1).1 d (List.mem_cons_self ..)
  rw [hr c (List.mem_cons_self ..), hr d (by simp)] at h1
  exact absurd h1 (by decide)

theorem keys_nil {B : List Cnt} (hr : rightB B = 0) : keysB [] B = if B = [] then [] else [[]] := by
 unfold keysB
 rw [pickV_right hr]
 by_cases h : B = []
 ·subst h; rfl
 ·rw [if_neg h]
  refine canon_one (sumB_canon _) (fun c hc => ?_) fun e => ?_
  ·obtain ⟨d, hd, hr⟩ := sumB_row hc
   rw [pickL_nil] at hd
   obtain ⟨x, _, rfl⟩ := List.mem_map.1 hd
   exact hr.symm
  ·have h1 := sumB_cnt (pickL [] B) []
   rw [e, cnt_nil, pick_cnt] at h1
   have h2 : lin (pickG [] []) B = sumN B := by
    rw [sumN_lin]; exact lin_ext fun c _ => rfl
   rw [h2] at h1
   obtain ⟨c, B', rfl⟩ := List.exists_cons_of_ne_nil h
   have h3 := right_pos hr c (List.mem_cons_self ..)
   have h4 := sumN_nn (l := B') fun d hd => by have := right_pos hr d (List.mem_cons_of_mem _ hd); omega
   rw [sumN_cons] at h1
   omega

theorem groupV_one {B : List Cnt} (hr : rightB B = 0) (ag : List Ag) (h40 : ag.length ≤ 40) : groupV [] true ag B = if B = [] then ([], 0) else if (aggsV B ag).2 ≠ 0 then ([], (aggsV B ag).2) else ([⟨(aggsV B ag).1, 1⟩], 0) := by
 unfold groupV
 rw [if_neg (by simp [hr]), if_neg (by simp), if_neg (by simp; omega), keys_nil hr]
 by_cases h : B = []
 ·rw [if_pos h, if_pos h]; rfl
 ·rw [if_neg h, if_neg h]
  unfold groupF
  rw [inB_nil]
  rfl

theorem groupOne_res (B : List Cnt) (hB : okB B) (f c f' c' : Int) : (m_zcb [.l (B.map Cnt.e), .i f, .i c, .i f', .i c']).res = some (0, [.b true]) := by
 have h0 := R05_Small_res B hB
 have hf := gfixed_res
 by_cases hs : smallB B = true
 ·have hl : B.length ≤ 60 := by
   unfold smallB at hs
   rw [Bool.and_eq_true, decide_eq_true_eq] at hs
   exact hs.2
  rw [hs] at h0
  have h1 := RRight_res B hB (by omega)
  by_cases hr : rightB B = 0
  ·rw [hr] at h1
   have h2 := GRows_res 0 0 [] [] true [] [] [] [⟨f, c⟩, ⟨f', c'⟩] (by simp) (by simp) B hB (by omega)
   have hag : ([⟨f, c⟩, ⟨f', c'⟩] : List Ag).map Ag.e = [[pI f, pI c], [pI f', pI c']] := rfl
   have hpk0 : ([] : List Int).map kE = [] := rfl
   rw [hag, hpk0, groupV_one hr _ (by simp)] at h2
   have h3 := GAgg_res B hB (by omega) f c
   have h4 := GAgg_res B hB (by omega) f' c'
   have a3 : AggV f c B = aggV f c B := by unfold AggV; rw [if_neg (by simp [hr])]
   have a4 : AggV f' c' B = aggV f' c' B := by unfold AggV; rw [if_neg (by simp [hr])]
   rw [a3] at h3
   rw [a4] at h4
   have v1 := aggV_ok hB hr f c
   have v2 := aggV_ok hB hr f' c'
   by_cases hn : B = []
   ·subst hn
    rw [if_pos rfl] at h2
    have hz : ln (([] : List Cnt).map Cnt.e) = 0 := rfl
    simp only [List.map_nil] at *
    simp only [m_zcb, hf, h0, h1, h2, h3, h4, vu, bs_nil, res_test, res_stop, ok_some', out_some, uB_0, uI_0, uI_s, uL_s, uL_0, ln_nil, beq_self_eq_true, bne_self_eq_false, if_true, Bool.not_true, Bool.false_eq_true, if_false]
   ·rw [if_neg hn] at h2
    have hz : ((B.length : Int) == 0) = false := by
     rw [beq_eq_false_iff_ne]
     have := List.length_pos_iff.2 hn
     omega
    generalize hp : aggV f c B = p at *
    generalize hq : aggV f' c' B = q at *
    by_cases e1 : p.2 = 0
    ·by_cases e2 : q.2 = 0
     ·have ea : aggsV B [⟨f, c⟩, ⟨f', c'⟩] = ([p.1, q.1], 0) := by
       rw [aggsV_good (by simp only [hp]; exact e1) (by rw [aggsV_good (by simp only [hq]; exact e2) (by simp [aggsV])]; simp), aggsV_good (by simp only [hq]; exact e2) (by simp [aggsV])]
       simp only [hp, hq]; rfl
      rw [ea, if_neg (by simp)] at h2
      have ho : okB [⟨[p.1, q.1], 1⟩] := by
       refine ⟨by simp, fun x hx => ?_⟩
       rw [List.mem_singleton] at hx
       subst hx
       refine ⟨⟨by simp, fun v hv => ?_⟩, show i64 1 by unfold i64; decide⟩
       simp only [List.mem_cons, List.mem_nil_iff, or_false] at hv
       rcases hv with rfl | rfl
       ·exact v1
       ·exact v2
      have h5 := R05_Same_res ho ho
      have hd : decide (([⟨[p.1, q.1], 1⟩] : List Cnt) = [⟨[p.1, q.1], 1⟩]) = true := decide_eq_true rfl
      rw [hd] at h5
      have hc : ([⟨[p.1, q.1], 1⟩] : List Cnt).map Cnt.e = [[PV.lst 39 [[pI p.1.k, pI p.1.n, pS (bs p.1.s)], [pI q.1.k, pI q.1.n, pS (bs q.1.s)]], pI 1]] := rfl
      rw [hc] at h5 h2
      have e1' : (p.2 != 0) = false := by simpa using e1
      have e2' : (q.2 != 0) = false := by simpa using e2
      simp only [m_zcb, hf, h0, h1, h2, h3, h4, h5, hz, e1', e2', vu, bs_nil, res_test, res_stop, ok_some', out_some, uB_0, uI_0, uI_s, uL_s, uL_0, uS_s, uS_0, ln_map, beq_self_eq_true, bne_self_eq_false, if_true, Bool.not_true, Bool.false_eq_true, if_false]
     ·have ea : aggsV B [⟨f, c⟩, ⟨f', c'⟩] = ([], q.2) := by
       have e3 : aggsV B [⟨f', c'⟩] = ([], q.2) := by rw [aggsV_bad (by simp only [hq]; exact e2)]; simp only [hq]
       rw [aggsV_late (by simp only [hp]; exact e1) (by rw [e3]; exact e2), e3]
      rw [ea, if_pos e2] at h2
      have e1' : (p.2 != 0) = false := by simpa using e1
      have e2' : (q.2 != 0) = true := by simpa using e2
      simp only [List.map_nil] at h2
      simp only [m_zcb, hf, h0, h1, h2, h3, h4, hz, e1', e2', vu, bs_nil, res_test, res_stop, ok_some', out_some, uB_0, uI_0, uI_s, uL_s, uL_0, ln_map, ln_nil, beq_self_eq_true, bne_self_eq_false, if_true, Bool.not_true, Bool.false_eq_true, if_false]
    ·have ea : aggsV B [⟨f, c⟩, ⟨f', c'⟩] = ([], p.2) := by rw [aggsV_bad (by simp only [hp]; exact e1)]; simp only [hp]
     rw [ea, if_pos e1] at h2
     have e1' : (p.2 != 0) = true := by simpa using e1
     simp only [List.map_nil] at h2
     simp only [m_zcb, hf, h0, h1, h2, h3, h4, hz, e1', vu, bs_nil, res_test, res_stop, ok_some', out_some, uB_0, uI_0, uI_s, uL_s, uL_0, ln_map, ln_nil, beq_self_eq_true, bne_self_eq_false, if_true, Bool.not_true, Bool.false_eq_true, if_false]
  ·have hr' : (rightB B != 0) = true := by simpa using hr
   simp only [m_zcb, hf, h0, h1, hr', res_test, res_stop, ok_some', out_some, uB_0, uI_0, beq_self_eq_true, if_true, Bool.not_true, Bool.false_eq_true, if_false]
 ·have hs' : smallB B = false := by simpa using hs
  rw [hs'] at h0
  simp only [m_zcb, h0, hf, res_test, res_stop, ok_some', out_some, uB_0, beq_self_eq_true, if_true, Bool.not_true, Bool.not_false, Bool.false_eq_true, if_false]

end Go.Proofs.YtkaljlpbmbfpgaaGreatDoor

set_option linter.unusedVariables false
set_option linter.unusedSimpArgs false
namespace Go.Proofs.YtkaljlpbmbfpgaaGreatDoor
open Go Go.Pu

/-- a view's cells -/
def Vw.e (v : Vw) : List PV := [pS (bs v.n0), pS (bs v.n1), pS (bs v.w), pI v.i, pI v.j, .lst 192 (v.wh.map Nd.e), .lst 3 (v.pk.map kE), pB v.g, .lst 32 v.ag]
def Vw.us (v : Vw) : List U := [.s (bs v.n0), .s (bs v.n1), .s (bs v.w), .i v.i, .i v.j, .l (v.wh.map Nd.e), .l (v.pk.map kE), .b v.g, .l v.ag]

set_option maxRecDepth 100000 in
theorem arg_bagQ {x : PV} (h : ArgGd Tryz.prog 30 x) : ∃ b : List Cnt, x = .lst 49 (b.map Cnt.e) ∧ okB b := by
 have e : ArgGd Tryz.prog 30 x = Gd Tryz.prog (.sl 49) x := by kernel_rfl
 rw [e] at h
 obtain ⟨l, e, h1, h2⟩ := gd_bag h
 exact ⟨l, e, h1, h2⟩

end Go.Proofs.YtkaljlpbmbfpgaaGreatDoor

set_option linter.unusedVariables false
set_option linter.unusedSimpArgs false
namespace Go.Proofs.YtkaljlpbmbfpgaaGreatDoor
open Go Go.Pu

set_option maxRecDepth 100000 in
theorem arg_agg {x : PV} (h : ArgGd Tryz.prog 32 x) : ∃ f c, x = .agg [pI f, pI c] := by
 have e : ArgGd Tryz.prog 32 x = ∃ xs, x = .agg xs ∧ Gds Tryz.prog [.int .i64, .int .i64] xs := by kernel_rfl
 rw [e] at h
 obtain ⟨xs, rfl, hg⟩ := h
 obtain ⟨hl, hg⟩ := gds_cells hg
 match xs, hl, hg with
 | [a, b], _, hg =>
  obtain ⟨f, rfl, _⟩ := gd_int (hg 0 (by decide))
  obtain ⟨c, rfl, _⟩ := gd_int (hg 1 (by decide))
  exact ⟨f, c, rfl⟩

end Go.Proofs.YtkaljlpbmbfpgaaGreatDoor
