/- Texts of this seat, one behind the other. -/
import Derived.Test.YtkaljlpbmbfpgaaGreatDoorVX
import Derived.Test.YtkaljlpbmbfpgaaGreatDoorGX
import Derived.KernelRfl
set_option linter.unusedVariables false
set_option linter.unusedSimpArgs false
namespace Go.Proofs.YtkaljlpbmbfpgaaGreatDoor
open Go Go.Pu

end Go.Proofs.YtkaljlpbmbfpgaaGreatDoor

set_option linter.unusedVariables false
set_option linter.unusedSimpArgs false
namespace Go.Proofs.YtkaljlpbmbfpgaaGreatDoor
open Go Go.Pu

theorem smallB_len {b : List Cnt} (h : smallB b = true) : b.length ≤ 60 := by
 unfold smallB at h
 rw [Bool.and_eq_true, decide_eq_true_eq] at h
 exact h.2
end Go.Proofs.YtkaljlpbmbfpgaaGreatDoor

set_option linter.unusedVariables false
set_option linter.unusedSimpArgs false
namespace Go.Proofs.YtkaljlpbmbfpgaaGreatDoor
open Go Go.Pu

theorem RGet_res (b : List Cnt) (h0 : b.length ≤ 1000000) (hb : okB b) (r : List Val) : (m_zbw [.l (b.map Cnt.e), .l (re r)]).res = some (0, [.i (getB b r)]) := by
 have hm := R05_May_res b hb
 unfold getB
 cases e0 : mayB b with
 | false =>
  have hl : lres rd_zbw_34_2 [.l (b.map Cnt.e), .l (re r), .i 0] = some (1, []) := by
   refine lres_stop ?_
   by_cases hn : (0 : Int) < (b.length : Nat)
   ·simp only [rd_zbw_34_2, rt_test, rt_stop, ln_map, hn, decide_true, if_true, hm, e0, ok_some', out_some, uB_0, beq_self_eq_true, Bool.false_eq_true, if_false]
   ·simp only [rd_zbw_34_2, rt_test, rt_stop, ln_map, hn, decide_false, Bool.false_eq_true, if_false]
  simp only [m_zbw, hl, ok_some', out_some, res_test, res_stop, show ((0 : Nat) == 1) = false from rfl, beq_self_eq_true, if_true, Bool.false_eq_true, if_false]
 | true =>
  have h := loop_ix b.length (rd := rd_zbw_34_2) (fun i => [.l (b.map Cnt.e), .l (re r), .i (i : Nat)]) (fun i => !decide (cmpR (b.getD i ⟨[], 0⟩).row r = 0)) 0 1 (fun i => [.i (b.getD i ⟨[], 0⟩).n]) []
   (by simp [rd_zbw_34_2]) (by
   intro i h _
   have hc := R02_Compare_res b[i].row r (hb.2 _ (List.getElem_mem h)).1.1
   rw [getD_in h]
   by_cases c : cmpR b[i].row r = 0
   ·have c' : (cmpR b[i].row r == 0) = true := by simp [c]
    simp only [rd_zbw_34_2, rt_test, rt_next, rt_stop, el_map _ _ h, row_e, n_e, ln_map, inR_cast, Int.ofNat_lt, h, decide_true, if_true, hm, e0, hc, c', ok_some', out_some, uB_0, uI_0, beq_self_eq_true]
    simp [c]
   ·have c' : (cmpR b[i].row r == 0) = false := by simp [c]
    simp only [rd_zbw_34_2, rt_test, rt_next, rt_stop, el_map _ _ h, row_e, n_e, ln_map, inR_cast, Int.ofNat_lt, h, decide_true, if_true, hm, e0, hc, c', ok_some', out_some, uB_0, uI_0, beq_self_eq_true, Bool.false_eq_true, if_false, w64_succ (i := i) (by omega)]
    simp [c])
  simp only [Int.natCast_zero] at h
  rcases h with ⟨h1, h2⟩ | ⟨i, hi, h1, _, h2⟩
  ·have hg : cnt b r = 0 := cnt_none fun c hc hz => by
    obtain ⟨i, hi, rfl⟩ := List.mem_iff_getElem.1 hc
    have := h1 i hi
    rw [getD_in hi] at this
    simp [hz] at this
   simp only [m_zbw, h2, hg, ok_some', out_some, res_test, res_stop, show ((0 : Nat) == 1) = false from rfl, beq_self_eq_true, if_true, Bool.false_eq_true, if_false]
  ·rw [getD_in hi] at h1 h2
   have hz : cmpR b[i].row r = 0 := by simpa using h1
   have hg : cnt b r = b[i].n := by rw [← (cR.zero _ _).1 hz]; exact cnt_mem (mayB_canon e0).1 (List.getElem_mem hi)
   simp only [m_zbw, h2, hg, ok_some', out_some, res_test, res_stop, uI_0, beq_self_eq_true, if_true]

theorem Both_res (a b : List Cnt) (ha : okB a) (hb : okB b) (hc : canon a) (hl : a.length + b.length ≤ 1000000) (hn : absN a + absN b ≤ 2305843009213693952) : (m_zba [.l (a.map Cnt.e), .l (b.map Cnt.e)]).res = some (0, [.l ((sumB (a ++ b)).map Cnt.e)]) := by
 have h := loop_acc (rd := rd_zba_26_2) b.length (fun i => [.l ((sumB (a ++ b.take i)).map Cnt.e), .l (b.map Cnt.e), .i (i : Nat)]) (some (0, [.l ((sumB (a ++ b)).map Cnt.e)]))
  (lres_stop (by simp [rd_zba_26_2])) (by
  intro i h
  have hm := List.getElem_mem h
  have oX : okB (a ++ b.take i) := ⟨by rw [List.length_append, List.length_take]; omega, fun c hc => (List.mem_append.1 hc).elim (ha.2 c) fun hc => hb.2 c (List.mem_of_mem_take hc)⟩
  have aX : absN (a ++ b.take i) ≤ 2305843009213693952 := by
   have := absN_take b i
   rw [absN_app]; omega
  have lX := sumB_len (a ++ b.take i)
  rw [List.length_append, List.length_take] at lX
  have hbi : b[i].n.natAbs ≤ absN b := by
   have h1 := absN_take b (i + 1)
   rw [take_one b h, absN_app] at h1
   simp only [absN] at h1
   omega
  have hadd := Add_res5 (sumB (a ++ b.take i)) (sumB_okB oX (by omega)) (by omega) (sumB_canon _).1 b[i].row b[i].n (by omega) (fun c hc => by
   have := cnt_abs (a ++ b.take i) c.row
   rw [sumB_n hc]; omega)
  have e : addC (sumB (a ++ b.take i)) b[i].row b[i].n = sumB (a ++ b.take (i + 1)) := by
   rw [take_one b h, ← List.append_assoc, sumB_snoc]
  rw [e] at hadd
  simp only [rd_zba_26_2, rt_test, rt_next, rt_stop, el_map _ _ h, row_e, n_e, ln_map, inR_cast, Int.ofNat_lt, h, decide_true, if_true, hadd, ok_some', out_some, uL_0, beq_self_eq_true, w64_succ (i := i) (by omega)])
 simp only [List.take_zero, List.append_nil, Int.natCast_zero, sumB_self hc] at h
 simp only [m_zba, h, ok_some', out_some, res_test, res_stop, uL_0, beq_self_eq_true, if_true]

end Go.Proofs.YtkaljlpbmbfpgaaGreatDoor

set_option linter.unusedVariables false
set_option linter.unusedSimpArgs false
namespace Go.Proofs.YtkaljlpbmbfpgaaGreatDoor
open Go Go.Pu

/-- a view, as plain data -/
structure Vw where
 n0 : List UInt8
 n1 : List UInt8
 w : List UInt8
 i : Int
 j : Int
 wh : List Nd
 pk : List Int
 g : Bool
 ag : List (List PV)

def Vw.ok (v : Vw) : Prop := (∀ d ∈ v.wh, d.ok) ∧ v.wh.length ≤ 140737488355328 ∧ v.pk.length ≤ 140737488355328

theorem ok01 : ((0 : Nat) == 1) = false := rfl
/-! what stays -/

/-! picks -/

theorem pick_loop (s0 s1 s2 : ByteArray) (i j : Int) (l8 : List (List PV)) (P : List Int) (hP : P.length ≤ 1000000) (b10 : Bool) (l11 : List (List PV)) (B : List Cnt) (h0 : B.length ≤ 1000000) :
  lres rd_zv_43_5 [.l (B.map Cnt.e), .i (B.length : Nat), .i 0, .s s0, .s s1, .s s2, .i i, .i j, .l l8, .l (P.map kE), .b b10, .l l11, .l []] = some (0, [.l ((pickL P B).map Cnt.e)]) := by
 have h := loop_acc B.length (rd := rd_zv_43_5) (fun p => [.l (B.map Cnt.e), .i (B.length : Nat), .i (p : Nat), .s s0, .s s1, .s s2, .i i, .i j, .l l8, .l (P.map kE), .b b10, .l l11, .l ((pickL P (B.take p)).map Cnt.e)]) (some (0, [.l ((pickL P B).map Cnt.e)]))
  (lres_stop (by simp [rd_zv_43_5])) (by
  intro p h
  have h1 := Pick_res B[p].row P hP
  have row0 : cL B[p].e 0 = re B[p].row := rfl
  have row1 : cI B[p].e 1 = B[p].n := rfl
  have ht : pickL P (B.take (p + 1)) = pickL P (B.take p) ++ pickC P B[p] := by
   rw [take_one B h]; unfold pickL; rw [List.flatMap_append]; simp
  have r2 : (((pickL P (B.take p)).map Cnt.e).length + 1) * 32 ≤ 140737488355328 := by
   have := pick_len P (B.take p)
   rw [List.length_map]
   rw [List.length_take] at this
   omega
  have hl : ln (re (pickR B[p].row P)) = ((pickR B[p].row P).length : Int) := ln_re _
  by_cases c1 : pickOk B[p].row P = true
  ·by_cases c2 : (pickR B[p].row P).length ≤ 40
   ·have c2' : ((pickR B[p].row P).length : Int) ≤ 40 := by omega
    have hO : (pickL P (B.take p)).map Cnt.e ++ [[PV.lst 39 (re (pickR B[p].row P)), pI B[p].n]] = (pickL P (B.take (p + 1))).map Cnt.e := by
     rw [ht, List.map_append]
     unfold pickC
     rw [if_pos ⟨c1, c2⟩]; rfl
    simp only [rd_zv_43_5, rt_test, rt_next, rt_stop, el_map _ _ h, ln_map, inR_cast, Int.ofNat_lt, h, decide_true, if_true, row0, row1, h1, ok_some', out_some, uB_0, uL_0, uL_s, c1, hl, c2', r2, hO, beq_self_eq_true, w64_succ (i := p) (by omega)]
   ·have c2' : ¬ ((pickR B[p].row P).length : Int) ≤ 40 := by omega
    have hO : (pickL P (B.take (p + 1))) = pickL P (B.take p) := by
     rw [ht]
     unfold pickC
     rw [if_neg fun h => c2 h.2, List.append_nil]
    simp only [rd_zv_43_5, rt_test, rt_next, rt_stop, el_map _ _ h, ln_map, inR_cast, Int.ofNat_lt, h, decide_true, if_true, row0, row1, h1, ok_some', out_some, uB_0, uL_0, uL_s, c1, hl, c2', decide_false, Bool.false_eq_true, if_false, hO, beq_self_eq_true, w64_succ (i := p) (by omega)]
  ·have c1' : pickOk B[p].row P = false := by simpa using c1
   have hO : (pickL P (B.take (p + 1))) = pickL P (B.take p) := by
    rw [ht]
    unfold pickC
    rw [if_neg fun h => c1 h.1, List.append_nil]
   simp only [rd_zv_43_5, rt_test, rt_next, rt_stop, el_map _ _ h, ln_map, inR_cast, Int.ofNat_lt, h, decide_true, if_true, row0, row1, h1, ok_some', out_some, uB_0, uL_0, uL_s, c1', Bool.false_eq_true, if_false, hO, beq_self_eq_true, w64_succ (i := p) (by omega)])
 simp only [List.take_zero, Int.natCast_zero] at h
 exact h

theorem pick_okB {P : List Int} {B : List Cnt} (h : okB B) (h0 : B.length ≤ 1000000) (hP : P.length ≤ 1000000) : okB (pickL P B) := by
 refine ⟨Nat.le_trans (pick_len P B) h.1, fun c hc => ?_⟩
 obtain ⟨b, hb, hc⟩ := List.mem_flatMap.1 hc
 unfold pickC at hc
 split at hc
 ·rename_i hk
  rw [List.mem_singleton] at hc
  subst hc
  refine ⟨⟨by show (pickR b.row P).length ≤ _; omega, fun v hv => ?_⟩, (h.2 b hb).2⟩
  obtain ⟨k, hkm, rfl⟩ := List.mem_map.1 hv
  have hk2 := hk.1
  unfold pickOk at hk2
  have := of_decide_eq_true (List.all_eq_true.1 hk2 k hkm)
  have hlt : k.toNat < b.row.length := by omega
  have e : b.row.getD k.toNat nul = b.row[k.toNat] := by rw [List.getD, List.getElem?_eq_getElem hlt]; rfl
  rw [e]
  exact (h.2 b hb).1.2 _ (List.getElem_mem hlt)
 ·cases hc

theorem PickB_res (n0 n1 w : List UInt8) (i j : Int) (l5 : List (List PV)) (P : List Int) (hP : P.length ≤ 1000000) (b7 : Bool) (l8 : List (List PV)) (B : List Cnt) (hB : okB B) (h0 : B.length ≤ 1000000) :
  (m_zv [.s (bs n0), .s (bs n1), .s (bs w), .i i, .i j, .l l5, .l (P.map kE), .b b7, .l l8, .l (B.map Cnt.e)]).res = some (0, [.l ((pickV P B).map Cnt.e)]) := by
 have h1 := bag_May_res B hB
 by_cases mB : mayB B = true
 ·have h2 := pick_loop (bs n0) (bs n1) (bs w) i j l5 P hP b7 l8 B h0
  have p1 := pick_okB hB h0 hP
  have p2 : absN (pickL P B) ≤ 4611686018427387904 := Nat.le_trans (pick_absN P B) (may_abs mB h0)
  have h3 := Sum_res _ p1 p2
  have h4 := bag_May_res _ (sumB_okB p1 p2)
  by_cases hs : mayB (sumB (pickL P B)) = true
  ·simp only [m_zv, h1, mB, ok_some', out_some, res_test, res_stop, uB_0, Bool.not_true, Bool.false_eq_true, if_false, beq_self_eq_true, if_true, ln_map, h2, uL_0, h3, h4, hs, pickV, and_self]
  ·have hs' : mayB (sumB (pickL P B)) = false := by simpa using hs
   simp only [m_zv, h1, mB, ok_some', out_some, res_test, res_stop, uB_0, Bool.not_true, Bool.not_false, Bool.false_eq_true, if_false, beq_self_eq_true, if_true, ln_map, h2, uL_0, h3, h4, hs', pickV, and_false, List.map_nil]
 ·have mB' : mayB B = false := by simpa using mB
  simp only [m_zv, h1, mB', ok_some', out_some, res_test, res_stop, uB_0, Bool.not_false, Bool.false_eq_true, if_false, beq_self_eq_true, if_true, pickV, false_and, List.map_nil]

theorem pickV_okB {P : List Int} {B : List Cnt} (h : okB B) (h0 : B.length ≤ 1000000) (hP : P.length ≤ 1000000) : okB (pickV P B) ∧ (pickV P B).length ≤ B.length := by
 unfold pickV
 split
 ·rename_i hm
  have p1 := pick_okB h h0 hP
  have p2 : absN (pickL P B) ≤ 4611686018427387904 := Nat.le_trans (pick_absN P B) (may_abs hm.1 h0)
  exact ⟨sumB_okB p1 p2, Nat.le_trans (sumB_len _) (pick_len P B)⟩
 ·exact ⟨⟨by simp, fun c hc => by cases hc⟩, by simp⟩

end Go.Proofs.YtkaljlpbmbfpgaaGreatDoor

set_option linter.unusedVariables false
set_option linter.unusedSimpArgs false
namespace Go.Proofs.YtkaljlpbmbfpgaaGreatDoor
open Go Go.Pu

def low3 (b : List Cnt) : Bool := b.all fun c => decide (-1000 ≤ c.n) && decide (c.n ≤ 1000)
def lowS (b : List Cnt) : Bool := low3 b && smallB b

theorem Low_res (b : List Cnt) (hb : okB b) : (m_zbm [.l (b.map Cnt.e)]).res = some (0, [.b (lowS b)]) := by
 have hlen := hb.1
 have h := loop_all' b (rd := rd_zbm_25_2) (fun i => [.l (b.map Cnt.e), .i (i : Nat)]) (fun c => decide (-1000 ≤ c.n) && decide (c.n ≤ 1000)) 0 1 [.b false] [.l (b.map Cnt.e)]
  (by simp [rd_zbm_25_2]) (by
  intro i h
  have row1 : cI b[i].e 1 = b[i].n := rfl
  simp only [rd_zbm_25_2, rt_test, rt_next, rt_stop, el_map _ _ h, ln_map, inR_cast, Int.ofNat_lt, h, decide_true, if_true, row1, w64_succ (i := i) (by omega)]
  by_cases c1 : b[i].n > 1000
  ·have : ¬ b[i].n ≤ 1000 := by omega
   simp only [c1, this, decide_true, decide_false, Bool.and_false, Bool.false_eq_true, if_false, if_true]
  ·by_cases c2 : b[i].n < -1000
   ·have : ¬ -1000 ≤ b[i].n := by omega
    simp only [c1, c2, this, decide_true, decide_false, Bool.false_and, Bool.false_eq_true, if_false, if_true]
   ·have c3 : b[i].n ≤ 1000 := by omega
    have c4 : -1000 ≤ b[i].n := by omega
    simp only [c1, c2, c3, c4, decide_true, decide_false, Bool.and_self, Bool.false_eq_true, if_false, if_true])
 simp only [Int.natCast_zero] at h
 have h2 := R05_Small_res b hb
 unfold lowS low3
 by_cases e : (b.all fun c => decide (-1000 ≤ c.n) && decide (c.n ≤ 1000)) = true
 ·rw [if_pos e] at h
  simp only [m_zbm, h, ok_some', out_some, res_test, res_stop, ok01, Bool.false_eq_true, if_false, beq_self_eq_true, if_true, uL_0, h2, uB_0, e, Bool.true_and]
 ·have e' : (b.all fun c => decide (-1000 ≤ c.n) && decide (c.n ≤ 1000)) = false := by simpa using e
  rw [if_neg e] at h
  simp only [m_zbm, h, ok_some', out_some, res_test, res_stop, beq_self_eq_true, if_true, uB_0, e', Bool.false_and]

theorem lowS_of {b : List Cnt} (h : lowS b = true) : b.length ≤ 60 ∧ absN b ≤ 60000 ∧ ∀ c ∈ b, -1000 ≤ c.n ∧ c.n ≤ 1000 := by
 unfold lowS at h
 rw [Bool.and_eq_true] at h
 have h1 := smallB_len h.2
 have h2 : ∀ c ∈ b, -1000 ≤ c.n ∧ c.n ≤ 1000 := fun c hc => by
  have := List.all_eq_true.1 h.1 c hc
  simpa using this
 have h3 := absN_le (b := b) (m := 1000) fun c hc => by have := h2 c hc; omega
 have h4 : b.length * 1000 ≤ 60 * 1000 := Nat.mul_le_mul_right _ h1
 exact ⟨h1, by omega, h2⟩

/-! changes of products -/

end Go.Proofs.YtkaljlpbmbfpgaaGreatDoor

set_option linter.unusedVariables false
set_option linter.unusedSimpArgs false
namespace Go.Proofs.YtkaljlpbmbfpgaaGreatDoor
open Go Go.Pu

section
variable (n0 n1 w : List UInt8) (i j : Int) (E : List Nd) (hE : ∀ d ∈ E, d.ok) (l6 : List (List PV)) (b7 : Bool) (l8 : List (List PV))

/-! what stays -/

end
end Go.Proofs.YtkaljlpbmbfpgaaGreatDoor

set_option linter.unusedVariables false
set_option linter.unusedSimpArgs false
namespace Go.Proofs.YtkaljlpbmbfpgaaGreatDoor
open Go Go.Pu

end Go.Proofs.YtkaljlpbmbfpgaaGreatDoor

set_option linter.unusedVariables false
set_option linter.unusedSimpArgs false
namespace Go.Proofs.YtkaljlpbmbfpgaaGreatDoor
open Go Go.Pu

theorem nil_okB : okB [] := ⟨by simp, fun c hc => by cases hc⟩

theorem may_abs9 {b : List Cnt} (h : mayB b = true) (hl : b.length ≤ 400000) : absN b ≤ 400000000000000 := by
 have h1 := absN_le (b := b) (m := 1000000000) fun c hc => mayB_n h hc
 have h2 : b.length * 1000000000 ≤ 400000 * 1000000000 := Nat.mul_le_mul_right _ hl
 omega

/-! what the laws say, as plain data -/

section
variable {w : List UInt8} {i j : Int} {f : List Val → Bool × Int} {A dA B dB C : List Cnt}

end

section
variable (n0 n1 w : List UInt8) (i j : Int) (E : List Nd) (hE : ∀ d ∈ E, d.ok) (P : List Int) (b7 : Bool) (l8 : List (List PV)) (A dA B dB : List Cnt) (hA : okB A) (hdA : okB dA) (hB : okB B) (hdB : okB dB)
include hE hA hdA hB hdB

end
end Go.Proofs.YtkaljlpbmbfpgaaGreatDoor

set_option linter.unusedVariables false
set_option linter.unusedSimpArgs false
namespace Go.Proofs.YtkaljlpbmbfpgaaGreatDoor
open Go Go.Pu

/-! what they are handed -/

theorem gd_listC {α : Type} {t : TypeId} {ks : List Kd} {b : Nat} {f : α → List PV} {p : α → Prop} (hk : kds Tryz.prog t = ks) (hb : Tryz.prog.bytesOf t = b) (hb1 : 1 ≤ b)
  (hc : ∀ e, Gds Tryz.prog ks e → ∃ a, e = f a ∧ p a) {x : PV} (h : Gd Tryz.prog (.sl t) x) : ∃ l : List α, x = .lst t (l.map f) ∧ l.length ≤ 140737488355328 ∧ ∀ a ∈ l, p a := by
 obtain ⟨es, rfl, h1, h2⟩ := gd_lst h
 rw [hk] at h2
 rw [hb] at h1
 obtain ⟨l, rfl, hl⟩ := lst_map fun e he => hc e (h2 e he)
 refine ⟨l, rfl, ?_, hl⟩
 rw [List.length_map] at h1
 have : l.length * 1 ≤ l.length * b := Nat.mul_le_mul_left _ hb1
 unfold big at h1
 omega

end Go.Proofs.YtkaljlpbmbfpgaaGreatDoor

set_option linter.unusedVariables false
set_option linter.unusedSimpArgs false
namespace Go.Proofs.YtkaljlpbmbfpgaaGreatDoor
open Go Go.Pu

end Go.Proofs.YtkaljlpbmbfpgaaGreatDoor

set_option linter.unusedVariables false
set_option linter.unusedSimpArgs false
namespace Go.Proofs.YtkaljlpbmbfpgaaGreatDoor
open Go Go.Pu

/-! parts -/

theorem evalV_run {e : List Nd} {row : List Val} (hl : ¬ e.length > 100) (h30 : (evalV e row).2 ≠ 30) : (∃ x, runV row e [] = .ok [x] ∧ evalV e row = (x, 0)) ∨ (∃ f, runV row e [] = .error f ∧ evalV e row = (nul, f) ∧ f ≠ 30) := by
 unfold evalV at *
 rw [if_neg hl] at h30 ⊢
 match hr : runV row e [], h30 with
 | .error f, h30 => exact .inr ⟨f, rfl, rfl, h30⟩
 | .ok [x], _ => exact .inl ⟨x, rfl, rfl⟩
 | .ok [], h30 => exact absurd rfl h30
 | .ok (x :: y :: s), h30 => exact absurd rfl h30

theorem stepV_err {row s : List Val} {d : Nd} {f : Int} (h : stepV row s d = .error f) : f = 30 ∨ f = 31 := by
 have ha : ∀ op a b (s : List Val), appV op a b s = .error f → f = 30 ∨ f = 31 := by
  intro op a b s h
  unfold appV at h
  (repeat' split at h) <;> first | (injection h with h; omega) | cases h
 unfold stepV at h
 (repeat' split at h) <;> first | (injection h with h; omega) | exact ha _ _ _ _ h | cases h
theorem runV_err {row : List Val} : ∀ {e : List Nd} {s : List Val} {f : Int}, runV row e s = .error f → f = 30 ∨ f = 31
 | [], s, f, h => by cases h
 | d :: e, s, f, h => by
  unfold runV at h
  cases hs : stepV row s d with
  | error g => rw [hs] at h; injection h with h; subst h; exact stepV_err hs
  | ok s1 => rw [hs] at h; exact runV_err h

/-- two expressions and a step that takes two -/
theorem parts (a b : List Nd) (op : Int) (row : List Val) (la : a.length ≤ 40) (lb : b.length ≤ 40) (hop : tk op = 2) (ha : (evalV a row).2 ≠ 30) (hb : (evalV b row).2 ≠ 30) :
  ((evalV a row).2 ≠ 0 → (evalV (a ++ b ++ [⟨op, 0, nul⟩]) row).2 = (evalV a row).2) ∧
  ((evalV a row).2 = 0 → (evalV b row).2 ≠ 0 → (evalV (a ++ b ++ [⟨op, 0, nul⟩]) row).2 = (evalV b row).2) ∧
  ((evalV a row).2 = 0 → (evalV b row).2 = 0 → evalV (a ++ b ++ [⟨op, 0, nul⟩]) row = evalV [⟨0, 0, nul⟩, ⟨0, 1, nul⟩, ⟨op, 0, nul⟩] [(evalV a row).1, (evalV b row).1]) := by
 have hlen : ¬ (a ++ b ++ [(⟨op, 0, nul⟩ : Nd)]).length > 100 := by simp; omega
 have g0 : ¬ op = 0 := by rintro rfl; exact absurd hop (by decide)
 have g1 : ¬ op = 1 := by rintro rfl; exact absurd hop (by decide)
 have hev : evalV (a ++ b ++ [⟨op, 0, nul⟩]) row = lastV (runV row (a ++ b ++ [⟨op, 0, nul⟩]) []) := by unfold evalV; rw [if_neg hlen]
 rw [hev, List.append_assoc, runV_app]
 rcases evalV_run (by omega) ha with ⟨x, hx, ex⟩ | ⟨f, hx, ex, nf⟩
 ·rw [hx, ex]
  simp only
  rw [runV_app]
  refine ⟨fun h => absurd rfl h, fun _ hb0 => ?_, fun _ hb0 => ?_⟩
  ·rcases evalV_run (by omega) hb with ⟨y, hy, ey⟩ | ⟨f, hy, ey, nf⟩
   ·rw [ey] at hb0; exact absurd rfl hb0
   ·have h31 : f = 31 := by rcases runV_err hy with h | h; exact absurd h nf; exact h
    subst h31
    have := (runV_under row [x] b []).2 hy
    rw [List.nil_append] at this
    rw [this, ey]; rfl
  ·rcases evalV_run (by omega) hb with ⟨y, hy, ey⟩ | ⟨f, hy, ey, nf⟩
   ·have := (runV_under row [x] b []).1 _ hy
    rw [List.nil_append] at this
    rw [this, ey]
    have s1 : ∀ r, stepV r [y, x] ⟨op, 0, nul⟩ = appV op x y [] := fun r => by unfold stepV; rw [if_neg g0, if_neg g1, if_neg (by show ¬ tk op = 1; omega), if_pos hop]
    have r3 : runV [x, y] [⟨0, 0, nul⟩, ⟨0, 1, nul⟩, ⟨op, 0, nul⟩] [] = runV [x, y] [⟨op, 0, nul⟩] [y, x] := rfl
    show lastV (runV row [⟨op, 0, nul⟩] [y, x]) = _
    unfold evalV
    rw [if_neg (by simp), r3, runV, runV, s1, s1]
    rfl
   ·rw [ey] at hb0
    rcases runV_err hy with h | h
    ·exact absurd h nf
    ·have : f = 0 := hb0
     omega
 ·rw [hx, ex]
  refine ⟨fun _ => rfl, fun h => ?_, fun h => ?_⟩
  ·have : f = 0 := h
   rcases runV_err hx with h | h <;> omega
  ·have : f = 0 := h
   rcases runV_err hx with h | h <;> omega

end Go.Proofs.YtkaljlpbmbfpgaaGreatDoor

set_option linter.unusedVariables false
set_option linter.unusedSimpArgs false
namespace Go.Proofs.YtkaljlpbmbfpgaaGreatDoor
open Go Go.Pu

theorem RPickR_res (r : List Val) (cs : List Int) (hc : cs.length ≤ 1000000) : (m_zbe [.l (re r), .l (cs.map kE)]).res = some (0, [.b (pickOk r cs), .l (if pickOk r cs = true then re (pickR r cs) else [])]) := by
 have h := loop_all' cs (rd := rd_zbe_64_3) (fun i => [.l (re r), .l (cs.map kE), .i (i : Nat), .l (re (pickR r (cs.take i)))]) (fun c => decide (0 ≤ c ∧ c < r.length)) 0 1 [.b false] [.l (re (pickR r cs))]
  (by simp [rd_zbe_64_3]) (by
  intro i h
  have e1 : ((re (pickR r (cs.take i))).length + 1) * 32 ≤ 140737488355328 := by rw [re_len]; simp [pickR]; omega
  simp only [rd_zbe_64_3, rt_test, rt_stop, rt_next, el_map _ _ h, kE, cI_p, ln_map, ln_re, inR_cast, Int.ofNat_lt, h, decide_true, if_true, e1, w64_succ (i := i) (by omega)]
  by_cases c0 : cs[i] < 0
  ·have : ¬ (0 ≤ cs[i] ∧ cs[i] < (r.length : Int)) := by omega
   simp [c0, this]
  ·by_cases c1 : cs[i] ≥ (r.length : Int)
   ·have : ¬ (0 ≤ cs[i] ∧ cs[i] < (r.length : Int)) := by omega
    simp only [c0, c1, this, decide_true, decide_false, Bool.false_eq_true, if_false, if_true]
   ·have h3 : 0 ≤ cs[i] ∧ cs[i] < (r.length : Int) := by omega
    have hk : cs[i].toNat < r.length := by omega
    have e2 : inR cs[i] (r.length : Int) = true := inR_iff.2 h3
    have e3 : (el (re r) cs[i]) = Val.e r[cs[i].toNat] := by
     unfold el re
     rw [List.getD, List.getElem?_map, List.getElem?_eq_getElem hk]
     rfl
    have e4 : re (pickR r (cs.take (i + 1))) = re (pickR r (cs.take i)) ++ [[pI r[cs[i].toNat].k, pI r[cs[i].toNat].n, pS (bs r[cs[i].toNat].s)]] := by
     unfold pickR
     rw [take_one cs h, List.map_append, re_app]
     simp only [List.map_cons, List.map_nil, getD_at hk]
     rfl
    simp only [c0, c1, decide_false, Bool.false_eq_true, if_false, e2, if_true, e3, Val.e, cI_p, cI_s, cS_s, cS_p, e4, decide_eq_true h3])
 simp only [List.take_zero, Int.natCast_zero] at h
 rw [show re (pickR r []) = [] from rfl] at h
 unfold pickOk at *
 by_cases e : (cs.all fun c => decide (0 ≤ c ∧ c < (r.length : Int))) = true
 ·rw [if_pos e] at h
  simp only [m_zbe, h, ok_some', out_some, res_test, res_stop, uL_0, e, ok01, Bool.false_eq_true, if_false, beq_self_eq_true, if_true]
 ·rw [if_neg e] at h
  simp only [m_zbe, h, ok_some', out_some, res_test, res_stop, uB_0, beq_self_eq_true, if_true, e, Bool.false_eq_true, if_false]

section
variable (n0 n1 w : List UInt8) (i j : Int) (l5 l6 : List (List PV)) (b7 : Bool) (l8 : List (List PV))

/-! what stays -/

/-! picks -/

theorem RPick_res (P : List Int) (hP : P.length ≤ 1000000) (B : List Cnt) (hB : okB B) (h0 : B.length ≤ 1000000) :
  (m_zbf [.s (bs n0), .s (bs n1), .s (bs w), .i i, .i j, .l l5, .l (P.map kE), .b b7, .l l8, .l (B.map Cnt.e)]).res = some (0, [.l ((pickV P B).map Cnt.e)]) := by
 have h1 := R05_May_res B hB
 cases mB : mayB B with
 | false =>
  rw [mB] at h1
  have h2 : lres rd_zbf_32_3 [.l (B.map Cnt.e), .i 0, .s (bs n0), .s (bs n1), .s (bs w), .i i, .i j, .l l5, .l (P.map kE), .b b7, .l l8, .l []] = some (0, [.l []]) := by
   refine lres_stop ?_
   by_cases hz : B.length = 0
   ·have hB0 : B = [] := List.eq_nil_of_length_eq_zero hz
    subst hB0
    simp [rd_zbf_32_3]
   ·have hlt : (0 : Int) < (B.length : Int) := by omega
    simp only [rd_zbf_32_3, rt_test, rt_stop, ln_map, hlt, decide_true, if_true, h1, ok_some', out_some, uB_0, beq_self_eq_true, Bool.false_eq_true, if_false]
  have h3 := R05_May_res [] nil_okB
  rw [mayB_nil] at h3
  simp only [List.map_nil] at h3
  simp only [m_zbf, h2, h3, ok_some', out_some, res_test, res_stop, uB_0, Bool.not_true, Bool.false_eq_true, if_false, beq_self_eq_true, if_true, uL_0, pickV, mB, false_and, List.map_nil]
 | true =>
  rw [mB] at h1
  have ab := may_abs mB h0
  have h2 := loop_acc B.length (rd := rd_zbf_32_3) (fun p => [.l (B.map Cnt.e), .i (p : Nat), .s (bs n0), .s (bs n1), .s (bs w), .i i, .i j, .l l5, .l (P.map kE), .b b7, .l l8, .l ((sumB (pickL P (B.take p))).map Cnt.e)]) (some (0, [.l ((sumB (pickL P B)).map Cnt.e)]))
   (lres_stop (by simp [rd_zbf_32_3])) (by
   intro p h
   have hp := RPickR_res B[p].row P hP
   have row0 : cL B[p].e 0 = re B[p].row := rfl
   have row1 : cI B[p].e 1 = B[p].n := rfl
   have ht : pickL P (B.take (p + 1)) = pickL P (B.take p) ++ pickC P B[p] := by
    rw [take_one B h]; unfold pickL; rw [List.flatMap_append]; simp
   have hl : ln (re (pickR B[p].row P)) = ((pickR B[p].row P).length : Int) := ln_re _
   have hlt : (p : Int) < (B.length : Int) := by omega
   by_cases c1 : pickOk B[p].row P = true
   ·by_cases c2 : (pickR B[p].row P).length ≤ 40
    ·have c2' : ((pickR B[p].row P).length : Int) ≤ 40 := by omega
     have oT : okB (B.take p) := ⟨by rw [List.length_take]; have := hB.1; omega, fun c hc => hB.2 c (List.mem_of_mem_take hc)⟩
     have oK := pick_okB (P := P) oT (by rw [List.length_take]; omega) hP
     have aK : absN (pickL P (B.take p)) ≤ 1000000000 * 1000000 := by
      have h3 := pick_absN P (B.take p)
      have h4 := absN_le (b := B.take p) (m := 1000000000) fun c hc => mayB_n mB (List.mem_of_mem_take hc)
      have h5 : (B.take p).length * 1000000000 ≤ 1000000 * 1000000000 := Nat.mul_le_mul_right _ (by rw [List.length_take]; omega)
      omega
     have lK : (sumB (pickL P (B.take p))).length ≤ 1000000 := by
      have h3 := sumB_len (pickL P (B.take p))
      have h4 := pick_len P (B.take p)
      rw [List.length_take] at h4
      omega
     have hn := mayB_n mB (List.getElem_mem h)
     have hadd := Add_res5 (sumB (pickL P (B.take p))) (sumB_okB oK (by omega)) (by omega) (sumB_canon _).1 (pickR B[p].row P) B[p].n (by omega) (fun c hc => by
      have h3 := sumB_n hc
      have h4 := cnt_abs (pickL P (B.take p)) c.row
      omega)
     have hsn : addC (sumB (pickL P (B.take p))) (pickR B[p].row P) B[p].n = sumB (pickL P (B.take (p + 1))) := by
      rw [ht]
      unfold pickC
      rw [if_pos ⟨c1, c2⟩]
      exact (sumB_snoc _ ⟨pickR B[p].row P, B[p].n⟩).symm
     rw [hsn] at hadd
     simp only [rd_zbf_32_3, rt_test, rt_next, rt_stop, el_map _ _ h, ln_map, inR_cast, hlt, h, decide_true, if_true, row0, row1, h1, hp, ok_some', out_some, uB_0, uL_0, uL_s, c1, hl, c2', hadd, beq_self_eq_true, w64_succ (i := p) (by omega)]
    ·have c2' : ¬ ((pickR B[p].row P).length : Int) ≤ 40 := by omega
     have hO : (pickL P (B.take (p + 1))) = pickL P (B.take p) := by
      rw [ht]
      unfold pickC
      rw [if_neg fun h => c2 h.2, List.append_nil]
     simp only [rd_zbf_32_3, rt_test, rt_next, rt_stop, el_map _ _ h, ln_map, inR_cast, hlt, h, decide_true, if_true, row0, row1, h1, hp, ok_some', out_some, uB_0, uL_0, uL_s, c1, hl, c2', decide_false, Bool.false_eq_true, if_false, hO, beq_self_eq_true, w64_succ (i := p) (by omega)]
   ·have c1' : pickOk B[p].row P = false := by simpa using c1
    have hO : (pickL P (B.take (p + 1))) = pickL P (B.take p) := by
     rw [ht]
     unfold pickC
     rw [if_neg fun h => c1 h.1, List.append_nil]
    simp only [rd_zbf_32_3, rt_test, rt_next, rt_stop, el_map _ _ h, ln_map, inR_cast, hlt, h, decide_true, if_true, row0, row1, h1, hp, ok_some', out_some, uB_0, uL_0, uL_s, c1', Bool.false_eq_true, if_false, hO, beq_self_eq_true, w64_succ (i := p) (by omega)])
  simp only [List.take_zero, Int.natCast_zero] at h2
  rw [show (sumB (pickL P [])).map Cnt.e = [] from rfl] at h2
  have p1 := pick_okB hB h0 hP
  have p2 : absN (pickL P B) ≤ 4611686018427387904 := Nat.le_trans (pick_absN P B) ab
  have h3 := R05_May_res _ (sumB_okB p1 p2)
  cases hs : mayB (sumB (pickL P B)) with
  | true => simp only [m_zbf, h2, h3, hs, ok_some', out_some, res_test, res_stop, uB_0, Bool.not_true, Bool.false_eq_true, if_false, beq_self_eq_true, if_true, uL_0, pickV, mB, and_self]
  | false => simp only [m_zbf, h2, h3, hs, ok_some', out_some, res_test, res_stop, uB_0, Bool.not_false, Bool.false_eq_true, if_false, beq_self_eq_true, if_true, uL_0, pickV, mB, and_false, List.map_nil]

end

/-! the law -/

section
variable (n0 n1 w : List UInt8) (i j : Int) (E : List Nd) (hE : ∀ d ∈ E, d.ok) (P : List Int) (b7 : Bool) (l8 : List (List PV))
include hE

end
end Go.Proofs.YtkaljlpbmbfpgaaGreatDoor

set_option linter.unusedVariables false
set_option linter.unusedSimpArgs false
namespace Go.Proofs.YtkaljlpbmbfpgaaGreatDoor
open Go Go.Pu

def satN (x : Int) : Int := if 100001 < x then 100001 else x

theorem sumN_nn {l : List Cnt} (h : ∀ c ∈ l, 0 ≤ c.n) : 0 ≤ sumN l := by
 have := abs_pos h
 omega

theorem all_take {B : List Cnt} {i : Nat} (hi : i ≤ B.length) {p : Cnt → Prop} (h : ∀ j (hj : j < B.length), j < i → p B[j]) : ∀ c ∈ B.take i, p c := by
 intro c hc
 obtain ⟨j, hj, rfl⟩ := List.getElem_of_mem hc
 rw [List.length_take] at hj
 rw [List.getElem_take]
 exact h j (by omega) (by omega)

def nnAt (B : List Cnt) (i : Nat) : Bool := decide (0 ≤ (B.getD i ⟨[], 0⟩).n)
theorem nnAt_at {B : List Cnt} {i : Nat} (h : i < B.length) : nnAt B i = decide (0 ≤ B[i].n) := by
 unfold nnAt; rw [getD_in h]

theorem nn_take {B : List Cnt} {i : Nat} (hi : i ≤ B.length) (h : ∀ j, j < i → nnAt B j = true) : ∀ c ∈ B.take i, 0 ≤ c.n :=
 all_take hi fun j hj hji => by
  have := h j hji
  rw [nnAt_at hj] at this
  exact of_decide_eq_true this

theorem nn_all {B : List Cnt} : (∀ i, i < B.length → nnAt B i = true) → negFree B = true := fun h =>
 negFree_iff.2 fun c hc => by
  obtain ⟨j, hj, rfl⟩ := List.getElem_of_mem hc
  have := h j hj
  rw [nnAt_at hj] at this
  exact of_decide_eq_true this

theorem nn_not {B : List Cnt} {i : Nat} (h : i < B.length) (hn : nnAt B i = false) : negFree B = false := by
 rw [nnAt_at h] at hn
 have hn := of_decide_eq_false hn
 cases e : negFree B with
 | false => rfl
 | true => exact absurd (negFree_iff.1 e _ (List.getElem_mem h)) hn

theorem right_loop (B : List Cnt) (h0 : B.length ≤ 1000000) (hm : ∀ c ∈ B, c.n.natAbs ≤ 1000000000) :
  lres rd_zr_42_5 [.i 0, .b false, .l (B.map Cnt.e), .i (B.length : Nat), .i 0] = if negFree B = true then some (1, [.b (decide (100000 < sumN B))]) else some (0, [.i 1]) := by
 have h := loop_ix B.length (rd := rd_zr_42_5) (fun i => [.i (satN (sumN (B.take i))), .b (decide (100000 < sumN (B.take i))), .l (B.map Cnt.e), .i (B.length : Nat), .i (i : Nat)]) (nnAt B) 0 1 (fun _ => [.i 1]) [.b (decide (100000 < sumN B))] (by simp [rd_zr_42_5]) (by
  intro i h hpre
  have hn := nn_take (Nat.le_of_lt h) hpre
  have hS := sumN_nn hn
  have hB := hm B[i] (List.getElem_mem h)
  have ht := sumN_take' B h
  have row1 : cI B[i].e 1 = B[i].n := rfl
  have hbound : sumN (B.take i) ≤ 1000000000000000 := by
   have h1 := sumN_abs' (B.take i)
   have h2 := absN_take B i
   have h3 := absN_le hm
   have h4 : B.length * 1000000000 ≤ 1000000 * 1000000000 := Nat.mul_le_mul_right _ h0
   omega
  rw [nnAt_at h, ht]
  generalize sumN (B.take i) = S at *
  generalize B[i].n = n at *
  by_cases c0 : n < 0
  ·have c0' : ¬ 0 ≤ n := by omega
   simp only [rd_zr_42_5, rt_test, rt_next, rt_stop, el_map _ _ h, ln_map, inR_cast, Int.ofNat_lt, h, decide_true, if_true, row1, c0, c0', decide_false, Bool.false_eq_true, if_false]
  ·have c0' : 0 ≤ n := by omega
   have k1 : w64 (satN S + if (100001 : Int) < n then 100001 else n) = satN S + if (100001 : Int) < n then 100001 else n := by
    unfold satN
    refine w64_eq ?_ ?_
    ·split <;> split <;> omega
    ·split <;> split <;> omega
   have k2 : (if (100001 : Int) < satN S + (if (100001 : Int) < n then 100001 else n) then 100001 else satN S + (if (100001 : Int) < n then 100001 else n)) = satN (S + n) := by
    unfold satN
    (repeat' split) <;> omega
   have k3 : decide (satN S + (if (100001 : Int) < n then 100001 else n) > 100000) = decide (100000 < S + n) := by
    rw [decide_eq_decide]
    unfold satN
    (repeat' split) <;> omega
   by_cases c1 : 100000 < S
   ·have c2 : 100000 < S + n := by omega
    simp only [rd_zr_42_5, rt_test, rt_next, rt_stop, el_map _ _ h, ln_map, inR_cast, Int.ofNat_lt, h, decide_true, if_true, row1, c0, c0', decide_false, Bool.false_eq_true, if_false, k1, k2, k3, c1, c2, w64_succ (i := i) (by omega)]
   ·simp only [rd_zr_42_5, rt_test, rt_next, rt_stop, el_map _ _ h, ln_map, inR_cast, Int.ofNat_lt, h, decide_true, if_true, row1, c0, c0', decide_false, Bool.false_eq_true, if_false, k1, k2, k3, c1, w64_succ (i := i) (by omega)])
 have e0 : satN (sumN (B.take 0)) = 0 := rfl
 have e1 : decide (100000 < sumN (B.take 0)) = false := rfl
 simp only [e0, e1, Int.natCast_zero] at h
 rcases h with ⟨k1, k2⟩ | ⟨i, k1, k2, _, k3⟩
 ·rw [nn_all k1, if_pos rfl]; exact k2
 ·rw [nn_not k1 k2, if_neg (by simp)]; exact k3

theorem gright_res (B : List Cnt) (hB : okB B) (h0 : B.length ≤ 1000000) : (m_zr [.l (B.map Cnt.e)]).res = some (0, [.i (rightB B)]) := by
 have h1 := bag_May_res B hB
 by_cases mB : mayB B = true
 ·have h2 := right_loop B h0 fun c hc => mayB_n mB hc
  by_cases mN : negFree B = true
  ·rw [mN, if_pos rfl] at h2
   by_cases c : sumN B ≤ 100000
   ·have c' : ¬ 100000 < sumN B := by omega
    simp [m_zr, h1, mB, h2, mN, c, c', rightB]
   ·have c' : 100000 < sumN B := by omega
    simp [m_zr, h1, mB, h2, mN, c, c', rightB]
  ·rw [if_neg mN] at h2
   simp [m_zr, h1, mB, h2, mN, rightB]
 ·simp [m_zr, h1, mB, rightB]

/-! aggregates -/

def vu (p : Val × Int) : List U := [.i p.1.k, .i p.1.n, .s (bs p.1.s), .i p.2]

theorem lin_bound {g : List Val → Int} {m : Int} : ∀ {b : List Cnt}, (∀ c ∈ b, -m ≤ g c.row ∧ g c.row ≤ m) → (∀ c ∈ b, 0 ≤ c.n) → -(m * sumN b) ≤ lin g b ∧ lin g b ≤ m * sumN b
 | [], _, _ => by simp [lin, sumN]
 | c :: b, hg, h => by
  have ih := lin_bound (b := b) (fun d hd => hg d (List.mem_cons_of_mem _ hd)) fun d hd => h d (List.mem_cons_of_mem _ hd)
  have h3 := h c (List.mem_cons_self ..)
  have h4 := hg c (List.mem_cons_self ..)
  rw [sumN_cons, Int.mul_add]
  simp only [lin]
  have h5 : c.n * g c.row ≤ c.n * m := Int.mul_le_mul_of_nonneg_left h4.2 h3
  have h6 : c.n * -m ≤ c.n * g c.row := Int.mul_le_mul_of_nonneg_left h4.1 h3
  rw [Int.mul_neg, Int.mul_comm c.n m] at h6
  rw [Int.mul_comm c.n m] at h5
  omega

theorem valI_bound {r : List Val} (h : okR r) (col : Int) : -9223372036854775808 ≤ valI col r ∧ valI col r ≤ 9223372036854775808 := by
 have := (atV_ok h col).2.1
 unfold i64 at this
 unfold valI
 split <;> omega

theorem sumN_le {B : List Cnt} (h0 : B.length ≤ 1000000) (hp : ∀ c ∈ B, 1 ≤ c.n ∧ c.n ≤ 1000000000) : 0 ≤ sumN B ∧ sumN B ≤ 1000000000000000 := by
 have h1 := sumN_abs' B
 have h3 := absN_le (b := B) (m := 1000000000) fun c hc => by have := hp c hc; omega
 have h4 : B.length * 1000000000 ≤ 1000000 * 1000000000 := Nat.mul_le_mul_right _ h0
 have h5 := sumN_nn fun c hc => by have := hp c hc; omega
 omega

theorem gagg_res (B : List Cnt) (hB : okB B) (h0 : B.length ≤ 1000000) (hp : ∀ c ∈ B, 1 ≤ c.n ∧ c.n ≤ 1000000000) (fn col : Int) :
  (m_zs [.i fn, .i col, .l (B.map Cnt.e)]).res = some (0, vu (aggV fn col B)) := by
 have hs := sumN_le h0 hp
 have ha : absN B ≤ 4611686018427387904 := by
  have h3 := absN_le (b := B) (m := 1000000000) fun c hc => by have := hp c hc; omega
  have h4 : B.length * 1000000000 ≤ 1000000 * 1000000000 := Nat.mul_le_mul_right _ h0
  omega
 by_cases f0 : fn = 0
 ·subst f0
  have h := agg_count B 0 col 0 0 (bs []) h0 ha (bs [])
  simp only [m_zs, beq_self_eq_true, res_test, res_stop, if_true, ln_map, bs_nil, h, ok_some', out_some, uI_s, uI_0, uS_s, uS_0, vu, aggV]
 ·have f0' : (fn == 0) = false := by simpa using f0
  by_cases f1 : fn = 1
  ·subst f1
   have h := agg_sum B 1 col 0 0 (bs []) h0 hp (fun c hc => (hB.2 c hc).1)
   have hb := lin_bound (g := valI col) (m := 9223372036854775808) (b := B) (fun c hc => valI_bound (hB.2 c hc).1 col) (fun c hc => by have := hp c hc; omega)
   obtain ⟨⟨b1, b2⟩, b3⟩ := bits128 (S := lin (valI col) B) (by omega)
   unfold aggV sumV
   rw [if_neg (by decide), if_pos rfl]
   generalize lin (valI col) B = S at *
   cases hany : anyI col B with
   | false =>
    rw [hany] at h
    simp only [m_zs, f0', beq_self_eq_true, res_test, res_stop, if_true, Bool.false_eq_true, if_false, ln_map, bs_nil, h, ok_some', out_some, uI_s, uI_0, uB_s, uB_0, Bool.not_false, vu, nul]
   | true =>
    rw [hany] at h
    rw [if_pos rfl]
    by_cases cr : -9223372036854775808 ≤ S ∧ S < 9223372036854775808
    ·rw [if_pos cr]
     have b3 := b3 cr
     by_cases c0 : w64 (lo64 S) ≥ 0
     ·have b1 := (b1 c0).2 cr
      have c1 : ¬ w64 (lo64 S) < 0 := by omega
      have c2 : ¬ S < 0 := by omega
      have c3 : S ≥ 0 := by omega
      simp only [m_zs, f0', beq_self_eq_true, res_test, res_stop, if_true, Bool.false_eq_true, if_false, ln_map, bs_nil, h, ok_some', out_some, uI_s, uI_0, uB_s, uB_0, Bool.not_true, vu, b3, b1, c2, c3, decide_true, decide_false, bne_self_eq_false]
     ·have c1 : w64 (lo64 S) < 0 := by omega
      have b2 := (b2 c1).2 cr
      have c2 : S < 0 := by omega
      have c3 : ¬ S ≥ 0 := by omega
      simp only [m_zs, f0', beq_self_eq_true, res_test, res_stop, if_true, Bool.false_eq_true, if_false, ln_map, bs_nil, h, ok_some', out_some, uI_s, uI_0, uB_s, uB_0, Bool.not_true, vu, b3, b2, c2, c3, decide_true, decide_false, bne_self_eq_false]
    ·rw [if_neg cr]
     by_cases c0 : w64 (lo64 S) ≥ 0
     ·have b1 : ¬ hi64 S = 0 := fun e => cr ((b1 c0).1 e)
      have b1' : (hi64 S != 0) = true := by simpa using b1
      simp only [m_zs, f0', beq_self_eq_true, res_test, res_stop, if_true, Bool.false_eq_true, if_false, ln_map, bs_nil, h, ok_some', out_some, uI_s, uI_0, uB_s, uB_0, Bool.not_true, vu, c0, b1', decide_true, nul]
     ·have c1 : w64 (lo64 S) < 0 := by omega
      have b2 : ¬ hi64 S = 18446744073709551615 := fun e => cr ((b2 c1).1 e)
      have b2' : (hi64 S != 18446744073709551615) = true := by simpa using b2
      simp only [m_zs, f0', beq_self_eq_true, res_test, res_stop, if_true, Bool.false_eq_true, if_false, ln_map, bs_nil, h, ok_some', out_some, uI_s, uI_0, uB_s, uB_0, Bool.not_true, vu, c0, c1, b2', decide_true, decide_false, nul]
  ·have f1' : (fn == 1) = false := by simpa using f1
   by_cases f2 : fn = 2
   ·subst f2
    have h := agg_best B 2 col 0 0 (bs []) 1 (.inl rfl) h0 fun c hc => (hp c hc).1
    have e0 : nul.k = 0 := rfl
    have e1 : nul.n = 0 := rfl
    have e2 : nul.s = [] := rfl
    rw [e0, e1, e2] at h
    simp only [m_zs, f0', f1', beq_self_eq_true, res_test, res_stop, if_true, Bool.false_eq_true, if_false, ln_map, bs_nil, h, ok_some', out_some, uI_s, uI_0, uS_s, uS_0, vu, aggV]
    simp
   ·have f2' : (fn == 2) = false := by simpa using f2
    by_cases f3 : fn = 3
    ·subst f3
     have h := agg_best B 3 col 0 0 (bs []) (-1) (.inr rfl) h0 fun c hc => (hp c hc).1
     have e0 : nul.k = 0 := rfl
     have e1 : nul.n = 0 := rfl
     have e2 : nul.s = [] := rfl
     rw [e0, e1, e2] at h
     simp only [m_zs, f0', f1', f2', beq_self_eq_true, res_test, res_stop, if_true, Bool.false_eq_true, if_false, ln_map, bs_nil, h, ok_some', out_some, uI_s, uI_0, uS_s, uS_0, vu, aggV]
     simp
    ·have f3' : (fn == 3) = false := by simpa using f3
     have h := agg_none B fn col 0 0 (bs []) h0 0 0 (bs [])
     simp only [m_zs, f0', f1', f2', f3', beq_self_eq_true, res_test, res_stop, if_true, Bool.false_eq_true, if_false, ln_map, bs_nil, h, ok_some', out_some, uI_s, uI_0, uS_s, uS_0, vu, aggV, f0, f1, f2, f3, nul]

theorem right_range {B : List Cnt} (h : rightB B = 0) : ∀ c ∈ B, 1 ≤ c.n ∧ c.n ≤ 1000000000 := fun c hc =>
 ⟨right_pos h c hc, by have := mayB_n (rightB_iff.1 h).1 hc; omega⟩

/-! the document's -/

end Go.Proofs.YtkaljlpbmbfpgaaGreatDoor

set_option linter.unusedVariables false
set_option linter.unusedSimpArgs false
namespace Go.Proofs.YtkaljlpbmbfpgaaGreatDoor
open Go Go.Pu

theorem Join1_res (a : List Val) (ha : a.length ≤ 1000000) : (m_zaa [.l [[.lst 39 (re a)]]]).res = some (0, [.l (re a)]) := by
 have h := Concat_res [a] (by simp) (by simp [lens]; omega)
 rw [show [a].map reR = [[PV.lst 39 (re a)]] from rfl] at h
 simp only [m_zaa, h, ok_some', out_some, res_test, res_stop, uL_0, beq_self_eq_true, if_true]
 simp

theorem txtR_inj {a b : List Val} (ha : a.all mayV = true) (hb : b.all mayV = true) (h : txtR a = txtR b) : a = b := by
 have := txtR_split (x := []) (y := []) ha hb (by rw [h])
 exact this.1

def hasT (pk : List Int) (k : List UInt8) (c : Cnt) : Bool := pickOk c.row pk && decide (txtR (pickR c.row pk) = k)

theorem pickR_may {r : List Val} (h : r.all mayV = true) {pk : List Int} (hk : pickOk r pk = true) : (pickR r pk).all mayV = true := by
 rw [List.all_eq_true]
 intro v hv
 obtain ⟨k, hkm, rfl⟩ := List.mem_map.1 hv
 unfold pickOk at hk
 have := of_decide_eq_true (List.all_eq_true.1 hk k hkm)
 have hlt : k.toNat < r.length := by omega
 have e : r.getD k.toNat nul = r[k.toNat] := by rw [List.getD, List.getElem?_eq_getElem hlt]; rfl
 rw [e]
 exact List.all_eq_true.1 h _ (List.getElem_mem hlt)

theorem mayR_all {r : List Val} (h : mayR r = true) : r.all mayV = true := by
 unfold mayR at h; rw [Bool.and_eq_true] at h; exact h.2

theorem hasT_in {pk : List Int} {k : List Val} (hk : k.all mayV = true) {B : List Cnt} (hm : mayB B = true) : B.filter (hasT pk (txtR k)) = inB pk k B := by
 unfold inB
 refine List.filter_congr fun c hc => ?_
 unfold hasT
 cases ho : pickOk c.row pk with
 | false => rfl
 | true =>
  simp only [Bool.true_and]
  rw [decide_eq_decide]
  exact ⟨txtR_inj (pickR_may (mayR_all (mayB_row hm hc)) ho) hk, fun h => by rw [h]⟩

theorem pick_okT {r : List Val} (h : mayR r = true) (ho : okR r) {pk : List Int} (hk : pickOk r pk = true) (hp : pk.length ≤ 200) : okT (pickR r pk) := by
 have hall := List.all_eq_true.1 (pickR_may (mayR_all h) hk)
 refine ⟨fun v hv => ?_, by simp [pickR]; exact hp, fun v hv => by have := may_len (hall v hv); omega⟩
 obtain ⟨k, hkm, rfl⟩ := List.mem_map.1 hv
 unfold pickOk at hk
 have := of_decide_eq_true (List.all_eq_true.1 hk k hkm)
 have hlt : k.toNat < r.length := by omega
 have e : r.getD k.toNat nul = r[k.toNat] := by rw [List.getD, List.getElem?_eq_getElem hlt]; rfl
 rw [e]
 exact ho.2 _ (List.getElem_mem hlt)

section
variable (s0 s1 s2 : ByteArray) (i j : Int) (l8 : List (List PV)) (pk : List Int) (g : Bool) (l11 : List (List PV))

theorem in_loop (B : List Cnt) (hB : okB B) (hm : mayB B = true) (h0 : B.length ≤ 1000000) (hp : pk.length ≤ 200) (K : List (List PV)) : ∀ m p (es : List (List PV)), B.length - p = m → p ≤ B.length → (∀ k, lkM es (bs k) = ((B.take p).filter (hasT pk k)).map Cnt.e) →
  ∃ es', lres rd_zab_15_9 [.l (B.map Cnt.e), .i (B.length : Nat), .i (p : Nat), .s s0, .s s1, .s s2, .i i, .i j, .l l8, .l (pk.map kE), .b g, .l l11, .l K, .l es] = some (0, [.s s0, .s s1, .s s2, .i i, .i j, .l l8, .l (pk.map kE), .b g, .l l11, .l K, .l es']) ∧ ∀ k, lkM es' (bs k) = (B.filter (hasT pk k)).map Cnt.e := by
 intro m
 induction m with
 | zero =>
  intro p es hi hle he
  have : p = B.length := by omega
  subst this
  refine ⟨es, lres_stop (by simp [rd_zab_15_9]), fun k => ?_⟩
  rw [he, List.take_length]
 | succ m ih =>
  intro p es hi hle he
  have h : p < B.length := by omega
  have hc := hB.2 B[p] (List.getElem_mem h)
  have hmr := mayB_row hm (List.getElem_mem h)
  have h1 := Pick_res B[p].row pk (by omega)
  have ht := take_cnt B h
  have row0 : cL B[p].e 0 = re B[p].row := rfl
  have row1 : cI B[p].e 1 = B[p].n := rfl
  by_cases hk : pickOk B[p].row pk = true
  ·have h2 := rowText_res (pickR B[p].row pk) (pick_okT hmr hc.1 hk hp)
   have hlen : ((lkM es (bs (txtR (pickR B[p].row pk)))).length + 1) * 32 ≤ 140737488355328 := by
    rw [he, List.length_map]
    have h3 := List.length_filter_le (hasT pk (txtR (pickR B[p].row pk))) (B.take p)
    rw [List.length_take] at h3
    omega
   obtain ⟨es', e1, e2⟩ := ih (p + 1) (putM es (bs (txtR (pickR B[p].row pk))) (PV.lst 49 (lkM es (bs (txtR (pickR B[p].row pk))) ++ [[PV.lst 39 (re B[p].row), pI B[p].n]]))) (by omega) (by omega) fun k => by
    rw [lk_put, he, he, ht, List.filter_append]
    by_cases e : bs k = bs (txtR (pickR B[p].row pk))
    ·have e' := bs_inj e
     have : hasT pk k B[p] = true := by simp [hasT, hk, e']
     rw [if_pos e, ← e']
     simp [List.filter_cons, this, Cnt.e]
    ·have : hasT pk k B[p] = false := by
      simp only [hasT, hk, Bool.true_and, decide_eq_false_iff_not]
      exact fun h4 => e (by rw [h4])
     rw [if_neg e]
     simp [List.filter_cons, this]
   refine ⟨es', ?_, e2⟩
   rw [← e1]
   refine lres_next ?_
   simp only [rd_zab_15_9, rt_test, rt_next, el_map _ _ h, ln_map, inR_cast, Int.ofNat_lt, h, decide_true, if_true, row0, row1, h1, h2, hk, ok_some', out_some, uB_0, uL_s, uL_0, uS_0, beq_self_eq_true, hlen, w64_succ (i := p) (by omega)]
  ·have hk' : pickOk B[p].row pk = false := by simpa using hk
   obtain ⟨es', e1, e2⟩ := ih (p + 1) es (by omega) (by omega) fun k => by
    rw [he, ht, List.filter_append]
    have : hasT pk k B[p] = false := by simp [hasT, hk']
    simp [List.filter_cons, this]
   refine ⟨es', ?_, e2⟩
   rw [← e1]
   refine lres_next ?_
   simp only [rd_zab_15_9, rt_test, rt_next, el_map _ _ h, ln_map, inR_cast, Int.ofNat_lt, h, decide_true, if_true, row0, row1, h1, hk', ok_some', out_some, uB_0, Bool.false_eq_true, if_false, beq_self_eq_true, w64_succ (i := p) (by omega)]

theorem aggs_loop (nk kx : Int) (ag : List Ag) (hag : ag.length ≤ 1000000) (es O : List (List PV)) (k : List Val) (hk : okT k) (kn : Int) (K : List (List PV)) (b : List Cnt) (hb : okB b) (hl : b.length ≤ 1000000) (hp : ∀ c ∈ b, 1 ≤ c.n ∧ c.n ≤ 1000000000) (hes : lkM es (bs (txtR k)) = b.map Cnt.e) :
  ∀ (rest pre : List Ag), ag = pre ++ rest → ∀ (acc : List Val), acc.length ≤ 1000 + pre.length →
  lres rd_zab_15_23 [.i nk, .i kx, .l (ag.map Ag.e), .i (ag.length : Nat), .i (pre.length : Nat), .s s0, .s s1, .s s2, .i i, .i j, .l l8, .l (pk.map kE), .b g, .l (ag.map Ag.e), .l es, .l O, .l (re k), .i kn, .l (re acc), .l K] =
   if (aggsV b rest).2 ≠ 0 then some (0, [.i (aggsV b rest).2]) else some (1, [.i nk, .i kx, .s s0, .s s1, .s s2, .i i, .i j, .l l8, .l (pk.map kE), .b g, .l (ag.map Ag.e), .l es, .l O, .l (re (acc ++ (aggsV b rest).1)), .l K]) := by
 intro rest
 induction rest with
 | nil =>
  intro pre he acc ha
  have e : pre.length = ag.length := by rw [he]; simp
  rw [show (aggsV b []) = ([], 0) from rfl, if_neg (by simp), List.append_nil, e]
  exact lres_stop (by simp [rd_zab_15_23])
 | cons a rest ih =>
  intro pre he acc ha
  have hlen : ag.length = pre.length + (rest.length + 1) := by rw [he]; simp
  have h : pre.length < ag.length := by omega
  have hat : ag[pre.length] = a := by subst he; simp
  have h1 := rowText_res k hk
  have h2 := gagg_res b hb hl hp a.f a.c
  have h3 : cI (Ag.e ag[pre.length]) 0 = a.f := by rw [hat]; rfl
  have h4 : cI (Ag.e ag[pre.length]) 1 = a.c := by rw [hat]; rfl
  by_cases c : (aggV a.f a.c b).2 = 0
  ·have c' : ((aggV a.f a.c b).2 != 0) = false := by simpa using c
   have hw : ((re acc).length + 1) * 32 ≤ 140737488355328 := by simp [re]; omega
   have hre : re acc ++ [[pI (aggV a.f a.c b).1.k, pI (aggV a.f a.c b).1.n, pS (bs (aggV a.f a.c b).1.s)]] = re (acc ++ [(aggV a.f a.c b).1]) := by simp [re, Val.e]
   have := ih (pre ++ [a]) (by simp [he]) (acc ++ [(aggV a.f a.c b).1]) (by simp; omega)
   rw [show ((pre ++ [a]).length : Int) = ((pre.length + 1 : Nat) : Int) by simp] at this
   rw [lres_next (us' := [.i nk, .i kx, .l (ag.map Ag.e), .i (ag.length : Nat), .i ((pre.length + 1 : Nat) : Int), .s s0, .s s1, .s s2, .i i, .i j, .l l8, .l (pk.map kE), .b g, .l (ag.map Ag.e), .l es, .l O, .l (re k), .i kn, .l (re (acc ++ [(aggV a.f a.c b).1])), .l K]) (by
    simp only [rd_zab_15_23, rt_test, rt_next, rt_stop, el_map _ _ h, ln_map, inR_cast, Int.ofNat_lt, h, decide_true, if_true, h3, h4, h1, hes, h2, ok_some', out_some, uS_0, uS_s, uI_s, uI_0, vu, beq_self_eq_true, c', Bool.false_eq_true, if_false, hw, hre, w64_succ (i := pre.length) (by omega)]), this]
   by_cases c2 : (aggsV b rest).2 ≠ 0
   ·rw [aggsV_late c c2, if_pos c2, if_pos c2]
   ·rw [aggsV_good c c2, if_neg c2, if_neg (by simp)]
    simp
  ·have c' : ((aggV a.f a.c b).2 != 0) = true := by simpa using c
   rw [aggsV_bad c, if_pos c]
   exact lres_stop (by
    simp only [rd_zab_15_23, rt_test, rt_next, rt_stop, el_map _ _ h, ln_map, inR_cast, Int.ofNat_lt, h, decide_true, if_true, h3, h4, h1, hes, h2, ok_some', out_some, uS_0, uS_s, uI_s, uI_0, vu, beq_self_eq_true, c'])

theorem keys_loop (ag : List Ag) (hag : ag.length ≤ 1000000) (B : List Cnt) (hB : okB B) (h0 : B.length ≤ 1000000) (hr : rightB B = 0) (es : List (List PV)) (hes : ∀ k : List Val, k.all mayV = true → lkM es (bs (txtR k)) = (inB pk k B).map Cnt.e)
  (K : List Cnt) (hK : K.length ≤ 1000000) (hKr : ∀ c ∈ K, mayR c.row = true ∧ okR c.row ∧ c.row.length + ag.length ≤ 40) :
  ∀ (rest pre : List Cnt), K = pre ++ rest → ∀ (O : List Cnt), O.length ≤ pre.length →
  lres rd_zab_15_17 [.i (K.length : Nat), .i (pre.length : Nat), .s s0, .s s1, .s s2, .i i, .i j, .l l8, .l (pk.map kE), .b g, .l (ag.map Ag.e), .l es, .l (O.map Cnt.e), .l (K.map Cnt.e)] =
   if (groupF pk ag B (rest.map Cnt.row)).2 ≠ 0 then some (0, [.i (groupF pk ag B (rest.map Cnt.row)).2]) else some (1, [.l ((O ++ (groupF pk ag B (rest.map Cnt.row)).1).map Cnt.e)]) := by
 intro rest
 induction rest with
 | nil =>
  intro pre he O hO
  have e : pre.length = K.length := by rw [he]; simp
  rw [show groupF pk ag B ([].map Cnt.row) = ([], 0) from rfl, if_neg (by simp), List.append_nil, e]
  exact lres_stop (by simp [rd_zab_15_17])
 | cons c rest ih =>
  intro pre he O hO
  have hlen : K.length = pre.length + (rest.length + 1) := by rw [he]; simp
  have h : pre.length < K.length := by omega
  have hat : K[pre.length] = c := by subst he; simp
  obtain ⟨m1, m2, m3⟩ := hKr c (by rw [he]; simp)
  have row0 : cL (Cnt.e K[pre.length]) 0 = re c.row := by rw [hat]; rfl
  have row1 : cI (Cnt.e K[pre.length]) 1 = c.n := by rw [hat]; rfl
  have hall := mayR_all m1
  have hT : okT c.row := ⟨m2.2, by omega, fun v hv => by have := may_len (List.all_eq_true.1 hall v hv); omega⟩
  have hsub : ∀ x ∈ inB pk c.row B, x ∈ B := fun x hx => (List.mem_filter.1 hx).1
  have hbl : (inB pk c.row B).length ≤ B.length := List.length_filter_le _ _
  have h1 := Join1_res c.row (by omega)
  have h2 := aggs_loop s0 s1 s2 i j l8 pk g (K.length : Nat) (pre.length : Nat) ag hag es (O.map Cnt.e) c.row hT c.n (K.map Cnt.e) (inB pk c.row B) ⟨by have := hB.1; omega, fun x hx => hB.2 x (hsub x hx)⟩ (by omega) (fun x hx => right_range hr x (hsub x hx)) (hes c.row hall) ag [] rfl c.row (by simp; omega)
  have hlt : Int.toNat ((pre.length : Nat) : Int) < (K.map Cnt.e).length := by simp; exact h
  have hno : ¬ w64 (ln (re c.row) + (ag.length : Int)) > 40 := by
   rw [ln_re, w64_eq (by omega) (by omega)]; omega
  simp only [List.length_nil, Int.natCast_zero] at h2
  rw [List.map_cons]
  by_cases k0 : (aggsV (inB pk c.row B) ag).2 ≠ 0
  ·rw [if_pos k0] at h2
   rw [groupF_bad k0, if_pos k0]
   exact lres_stop (by
    simp only [rd_zab_15_17, rt_test, rt_next, rt_stop, el_map _ _ h, ln_map, inR_cast, Int.ofNat_lt, h, hlt, decide_true, if_true, row0, row1, hno, decide_false, Bool.false_eq_true, if_false, h1, h2, ok_some', out_some, uL_0, uI_0, beq_self_eq_true])
  ·rw [if_neg k0] at h2
   have := ih (pre ++ [c]) (by simp [he]) (O ++ [⟨c.row ++ (aggsV (inB pk c.row B) ag).1, 1⟩]) (by simp; omega)
   rw [show ((pre ++ [c]).length : Int) = ((pre.length + 1 : Nat) : Int) by simp] at this
   have hw : ((O.map Cnt.e).length + 1) * 32 ≤ 140737488355328 := by simp; omega
   have hO2 : O.map Cnt.e ++ [[PV.lst 39 (re (c.row ++ (aggsV (inB pk c.row B) ag).1)), pI 1]] = (O ++ [(⟨c.row ++ (aggsV (inB pk c.row B) ag).1, 1⟩ : Cnt)]).map Cnt.e := by simp [Cnt.e]
   have n01 : ((1 : Nat) == 0) = false := rfl
   have n10 : ((0 : Nat) == 1) = false := rfl
   rw [lres_next (us' := [.i (K.length : Nat), .i ((pre.length + 1 : Nat) : Int), .s s0, .s s1, .s s2, .i i, .i j, .l l8, .l (pk.map kE), .b g, .l (ag.map Ag.e), .l es, .l ((O ++ [(⟨c.row ++ (aggsV (inB pk c.row B) ag).1, 1⟩ : Cnt)]).map Cnt.e), .l (K.map Cnt.e)]) (by
    simp only [rd_zab_15_17, rt_test, rt_next, rt_stop, el_map _ _ h, ln_map, inR_cast, Int.ofNat_lt, h, hlt, decide_true, if_true, row0, row1, hno, decide_false, Bool.false_eq_true, if_false, h1, h2, ok_some', out_some, n01, n10, uL_0, uI_0, uI_s, uL_s, uS_s, uS_0, uB_s, uB_0, beq_self_eq_true, hw, hO2, w64_succ (i := pre.length) (by omega)]), this]
   by_cases c2 : (groupF pk ag B (rest.map Cnt.row)).2 ≠ 0
   ·rw [groupF_late k0 c2, if_pos c2, if_pos c2]
   ·rw [groupF_good k0 c2, if_neg c2, if_neg (by simp)]
    simp

theorem GRows_res (n0 n1 w : List UInt8) (ag : List Ag) (hag : ag.length ≤ 1000000) (hp : pk.length ≤ 200) (B : List Cnt) (hB : okB B) (h0 : B.length ≤ 1000000) :
  (m_zab [.s (bs n0), .s (bs n1), .s (bs w), .i i, .i j, .l l8, .l (pk.map kE), .b g, .l (ag.map Ag.e), .l (B.map Cnt.e)]).res = some (0, [.i (groupV pk g ag B).2, .l ((groupV pk g ag B).1.map Cnt.e)]) := by
 have h1 := gright_res B hB h0
 unfold groupV
 by_cases hr : rightB B = 0
 ·rw [if_neg (by simp [hr])]
  rw [hr] at h1
  have hm := (rightB_iff.1 hr).1
  have h2 := PickB_res n0 n1 w i j l8 pk (by omega) g (ag.map Ag.e) B hB h0
  cases g with
  | false =>
   rw [if_pos rfl]
   simp only [m_zab, h1, h2, res_test, res_stop, ok_some', out_some, uI_0, uL_0, beq_self_eq_true, if_true, bne_self_eq_false, Bool.not_false, Bool.false_eq_true, if_false]
  | true =>
   rw [if_neg (by simp)]
   obtain ⟨es, h3, h4⟩ := in_loop (bs n0) (bs n1) (bs w) i j l8 pk true (ag.map Ag.e) B hB hm h0 hp ((pickV pk B).map Cnt.e) B.length 0 [] (by omega) (by omega) fun k => rfl
   have hes : ∀ k : List Val, k.all mayV = true → lkM es (bs (txtR k)) = (inB pk k B).map Cnt.e := fun k hk => by rw [h4, hasT_in hk hm]
   have hKo := pickV_okB hB h0 (by omega : pk.length ≤ 1000000)
   have hKl : ∀ c ∈ pickV pk B, c.row.length = pk.length ∧ c.row.length ≤ 40 := fun c hc => by
    obtain ⟨_, _, _, _, e1, e2⟩ := key_of (pk := pk) (b := B) (List.mem_map.2 ⟨c, hc, rfl⟩)
    exact ⟨e1, e2⟩
   simp only [Int.natCast_zero] at h3
   by_cases ht : pickV pk B ≠ [] ∧ 40 < pk.length + ag.length
   ·rw [if_pos ht]
    obtain ⟨c, K, hK⟩ := List.exists_cons_of_ne_nil ht.1
    have hc := hKl c (by rw [hK]; simp)
    have h5 : lres rd_zab_15_17 [.i ((pickV pk B).length : Nat), .i 0, .s (bs n0), .s (bs n1), .s (bs w), .i i, .i j, .l l8, .l (pk.map kE), .b true, .l (ag.map Ag.e), .l es, .l [], .l ((pickV pk B).map Cnt.e)] = some (0, [.i 100]) := by
     have hln : (pickV pk B).length = K.length + 1 := by rw [hK]; rfl
     have e0 : el ((pickV pk B).map Cnt.e) 0 = Cnt.e c := by rw [hK]; rfl
     have e1 : inR 0 (((K.length + 1 : Nat)) : Int) = true := inR_iff.2 ⟨by omega, by omega⟩
     have e2 : (0 : Int) < ((K.length + 1 : Nat) : Int) := by omega
     have e3 : Int.toNat 0 < ((pickV pk B).map Cnt.e).length := by rw [List.length_map, hln]; exact Nat.succ_pos _
     have row0 : cL (Cnt.e c) 0 = re c.row := rfl
     have hno : w64 (ln (re c.row) + (ag.length : Int)) > 40 := by
      rw [ln_re, w64_eq (by omega) (by omega)]; omega
     exact lres_stop (by
      simp only [rd_zab_15_17, rt_test, rt_next, rt_stop, ln_map, hln, e0, e1, e2, e3, decide_true, if_true, row0, hno])
    simp only [m_zab, h1, h2, h3, h5, res_test, res_stop, ok_some', out_some, uI_0, uI_s, uL_0, uL_s, uS_0, uS_s, uB_0, uB_s, ln_map, beq_self_eq_true, if_true, bne_self_eq_false, Bool.not_true, Bool.false_eq_true, if_false, List.map_nil]
   ·rw [if_neg ht]
    have hKr : ∀ c ∈ pickV pk B, mayR c.row = true ∧ okR c.row ∧ c.row.length + ag.length ≤ 40 := fun c hc => by
     refine ⟨mayB_row (pickV_may pk B) hc, (hKo.1.2 c hc).1, ?_⟩
     have e := hKl c hc
     have : ¬ 40 < pk.length + ag.length := fun h => ht ⟨List.ne_nil_of_mem hc, h⟩
     omega
    have h5 := keys_loop (bs n0) (bs n1) (bs w) i j l8 pk true ag hag B hB h0 hr es hes (pickV pk B) (by omega) hKr (pickV pk B) [] rfl [] (by simp)
    simp only [List.length_nil, Int.natCast_zero, List.nil_append, List.map_nil] at h5
    have n01 : ((1 : Nat) == 0) = false := rfl
    have n10 : ((0 : Nat) == 1) = false := rfl
    unfold keysB
    by_cases c2 : (groupF pk ag B ((pickV pk B).map Cnt.row)).2 ≠ 0
    ·rw [if_pos c2] at h5
     rw [groupF_err c2]
     simp only [m_zab, h1, h2, h3, h5, res_test, res_stop, ok_some', out_some, uI_0, uI_s, uL_0, uL_s, uS_0, uS_s, uB_0, uB_s, ln_map, beq_self_eq_true, if_true, bne_self_eq_false, Bool.not_true, Bool.false_eq_true, if_false, List.map_nil]
    ·rw [if_neg c2] at h5
     have c3 : (groupF pk ag B ((pickV pk B).map Cnt.row)).2 = 0 := by simpa using c2
     rw [c3]
     simp only [m_zab, h1, h2, h3, h5, n01, n10, res_test, res_stop, ok_some', out_some, uI_0, uI_s, uL_0, uL_s, uS_0, uS_s, uB_0, uB_s, ln_map, beq_self_eq_true, if_true, bne_self_eq_false, Bool.not_true, Bool.false_eq_true, if_false]
 ·rw [if_pos hr]
  have hr' : (rightB B != 0) = true := by simpa using hr
  simp only [m_zab, h1, res_test, res_stop, ok_some', out_some, uI_0, beq_self_eq_true, if_true, hr', List.map_nil]

end

end Go.Proofs.YtkaljlpbmbfpgaaGreatDoor

set_option linter.unusedVariables false
set_option linter.unusedSimpArgs false
namespace Go.Proofs.YtkaljlpbmbfpgaaGreatDoor
open Go Go.Pu

section
variable (s0 s1 s2 : ByteArray) (i j : Int) (l8 : List (List PV)) (pk : List Int) (g : Bool) (l11 : List (List PV))

end

end Go.Proofs.YtkaljlpbmbfpgaaGreatDoor

set_option linter.unusedVariables false
set_option linter.unusedSimpArgs false
namespace Go.Proofs.YtkaljlpbmbfpgaaGreatDoor
open Go Go.Pu

/-! groups' rows are good rows -/

theorem two_ok {n : Int} (h : i64 n) : Val.ok ⟨2, n, []⟩ := ⟨show i64 2 by unfold i64; decide, h, show ([] : List UInt8).length ≤ big by decide⟩

theorem aggV_ok {b : List Cnt} (hb : okB b) (hr : rightB b = 0) (fn col : Int) : (aggV fn col b).1.ok := by
 have hs := (rightB_iff.1 hr).2.2
 have h0 := sumN_nn fun c hc => negFree_iff.1 (rightB_iff.1 hr).2.1 c hc
 have best : ∀ s, (bestV s col b nul).ok := fun s => by
  rcases bestV_mem s col b nul with h | ⟨c, hc, h⟩
  ·rw [h]; exact nul_ok
  ·rw [h]; exact atV_ok (hb.2 c hc).1 col
 unfold aggV
 split
 ·exact two_ok (by unfold i64; omega)
 ·split
  ·unfold sumV
   split
   ·split
    ·rename_i h; exact two_ok h
    ·exact nul_ok
   ·exact nul_ok
  ·split
   ·exact best 1
   ·split
    ·exact best (-1)
    ·exact nul_ok

theorem aggV_may {b : List Cnt} (hb : mayB b = true) (fn col : Int) : mayV (aggV fn col b).1 = true := by
 have best : ∀ s, mayV (bestV s col b nul) = true := fun s => by
  rcases bestV_mem s col b nul with h | ⟨c, hc, h⟩
  ·rw [h]; rfl
  ·rw [h]; exact atV_may (mayB_row hb hc) col
 have two : ∀ n : Int, mayV ⟨2, n, []⟩ = true := fun n => by simp [mayV]
 unfold aggV
 split
 ·exact two _
 ·split
  ·unfold sumV
   split
   ·split
    ·exact two _
    ·rfl
   ·rfl
  ·split
   ·exact best 1
   ·split
    ·exact best (-1)
    ·rfl

theorem inB_okB {pk : List Int} {k : List Val} {b : List Cnt} (h : okB b) : okB (inB pk k b) :=
 ⟨Nat.le_trans (List.length_filter_le _ _) h.1, fun c hc => h.2 c (List.mem_filter.1 hc).1⟩

theorem groupV_row {pk : List Int} {g : Bool} {ag : List Ag} {b : List Cnt} (hg : g = true) {c : Cnt} (hc : c ∈ (groupV pk g ag b).1) :
  rightB b = 0 ∧ pk.length + ag.length ≤ 40 ∧ (groupV pk g ag b).2 = 0 ∧ ∃ k ∈ keysB pk b, (aggsV (inB pk k b) ag).2 = 0 ∧ c = ⟨k ++ (aggsV (inB pk k b) ag).1, 1⟩ := by
 unfold groupV at hc ⊢
 split at hc
 ·cases hc
 ·rename_i h1
  have h1 : rightB b = 0 := by simpa using h1
  rw [if_neg (by simp [h1])]
  split at hc
  ·rename_i h; rw [hg] at h; cases h
  ·rw [if_neg ‹_›]
   split at hc
   ·cases hc
   ·rename_i h2
    rw [if_neg h2]
    obtain ⟨k, hk, ha, he⟩ := groupF_mem hc
    refine ⟨h1, ?_, ?_, k, hk, ha, he⟩
    ·have : pickV pk b ≠ [] := fun e => by unfold keysB at hk; rw [e] at hk; cases hk
     exact Classical.byContradiction fun hn => h2 ⟨this, by omega⟩
    ·exact Classical.byContradiction fun hn => by rw [groupF_err hn] at hc; cases hc

theorem groupV_okB {pk : List Int} {g : Bool} {ag : List Ag} {b : List Cnt} (hb : okB b) (h0 : b.length ≤ 1000000) (hp : pk.length ≤ 1000000) : okB (groupV pk g ag b).1 ∧ (groupV pk g ag b).1.length ≤ b.length := by
 have hK := pickV_okB hb h0 hp
 cases g with
 | false =>
  unfold groupV
  split
  ·exact ⟨nil_okB, by simp⟩
  ·rw [if_pos rfl]; exact hK
 | true =>
  have hl : (groupV pk true ag b).1.length ≤ b.length := by
   unfold groupV
   split
   ·simp
   ·rw [if_neg (by simp)]
    split
    ·simp
    ·by_cases he : (groupF pk ag b (keysB pk b)).2 = 0
     ·rw [groupF_eq he]; simp [keysB]; exact hK.2
     ·rw [groupF_err he]; simp
  refine ⟨⟨by have := hb.1; omega, fun c hc => ?_⟩, hl⟩
  obtain ⟨hr, h40, _, k, hk, ha, rfl⟩ := groupV_row rfl hc
  obtain ⟨d, hd, hdk⟩ := List.mem_map.1 hk
  have hko := (hK.1.2 d hd).1
  rw [hdk] at hko
  obtain ⟨_, _, _, _, e1, _⟩ := key_of hk
  have hln := aggsV_len ha
  refine ⟨⟨?_, fun v hv => ?_⟩, show i64 1 by unfold i64; decide⟩
  ·show (k ++ _).length ≤ _
   rw [List.length_append, hln]; omega
  ·rcases List.mem_append.1 hv with h | h
   ·exact hko.2 v h
   ·obtain ⟨a, _, _, rfl⟩ := aggsV_mem v h
    exact aggV_ok (inB_okB hb) (right_filter hr) _ _

/-! what the document fixes -/

def okVb (v : Val) : Bool := decide (-9223372036854775808 ≤ v.k ∧ v.k < 9223372036854775808) && decide (-9223372036854775808 ≤ v.n ∧ v.n < 9223372036854775808) && decide (v.s.length ≤ 1000)
def okBb (b : List Cnt) : Bool := decide (b.length ≤ 1000) && b.all fun c => decide (c.row.length ≤ 1000) && c.row.all okVb && decide (-9223372036854775808 ≤ c.n ∧ c.n < 9223372036854775808)
theorem okB_dec {b : List Cnt} (h : okBb b = true) : okB b := by
 unfold okBb at h
 simp only [Bool.and_eq_true, decide_eq_true_eq, List.all_eq_true] at h
 refine ⟨by omega, fun c hc => ?_⟩
 obtain ⟨⟨h1, h2⟩, h3⟩ := h.2 c hc
 refine ⟨⟨by omega, fun v hv => ?_⟩, h3⟩
 have := h2 v hv
 unfold okVb at this
 simp only [Bool.and_eq_true, decide_eq_true_eq] at this
 exact ⟨this.1.1, this.1.2, by unfold big; omega⟩

section
variable (n0 n1 w : List UInt8) (i j : Int) (l5 : List (List PV))

end

end Go.Proofs.YtkaljlpbmbfpgaaGreatDoor

set_option linter.unusedVariables false
set_option linter.unusedSimpArgs false
namespace Go.Proofs.YtkaljlpbmbfpgaaGreatDoor
open Go Go.Pu

/-! two bags together, whatever the first one is -/

/-! what is touched -/

def touchB (pk : List Int) (D : List Cnt) (r : List Val) : Bool := D.any fun d => pickOk d.row pk && decide (pickR r pk = pickR d.row pk)
def tchB (pk : List Int) (D b : List Cnt) : List Cnt := b.filter fun c => pickOk c.row pk && touchB pk D c.row

theorem tch_okB {pk : List Int} {D b : List Cnt} (h : okB b) : okB (tchB pk D b) := ⟨Nat.le_trans (List.length_filter_le _ _) h.1, fun c hc => h.2 c (List.mem_filter.1 hc).1⟩
theorem tch_len (pk : List Int) (D b : List Cnt) : (tchB pk D b).length ≤ b.length := List.length_filter_le _ _

theorem lkB_put (es : List (List PV)) (s s' : ByteArray) : lkB (putM es s (pB true)) s' = (decide (s' = s) || lkB es s') := by
 unfold lkB
 rw [at_put]
 by_cases h : s' = s
 ·rw [if_pos h]; simp [h]; rfl
 ·rw [if_neg h]; simp [h]

section
variable (s0 s1 s2 : ByteArray) (i j : Int) (l8 : List (List PV)) (pk : List Int) (g : Bool) (l11 : List (List PV))

theorem gkey_res (r : List Val) (hp : pk.length ≤ 200) (ho : okR r) (hm : mayR r = true) :
  (m_zac [.s s0, .s s1, .s s2, .i i, .i j, .l l8, .l (pk.map kE), .b g, .l l11, .l (re r)]).res = some (0, [.s (bs (txtR (if pickOk r pk = true then pickR r pk else []))), .b (pickOk r pk)]) := by
 have h1 := Pick_res r pk (by omega)
 by_cases hk : pickOk r pk = true
 ·have h2 := rowText_res (pickR r pk) (pick_okT hm ho hk hp)
  rw [hk, if_pos rfl] at h1
  simp only [m_zac, h1, h2, hk, res_test, res_stop, ok_some', out_some, uB_0, uL_s, uL_0, uS_0, beq_self_eq_true, if_true]
 ·have hk' : pickOk r pk = false := by simpa using hk
  have h2 : (m_zy [.l []]).res = some (0, [.s (bs (txtR []))]) := rowText_res [] ⟨fun _ h => (by cases h), by simp, fun _ h => (by cases h)⟩
  rw [hk', if_neg (by simp)] at h1
  simp only [m_zac, h1, h2, hk', res_test, res_stop, ok_some', out_some, uB_0, uL_s, uL_0, uS_0, beq_self_eq_true, if_true, Bool.false_eq_true, if_false]

theorem touched_loop (D : List Cnt) (hD : okB D) (hm : mayB D = true) (h0 : D.length ≤ 1000000) (hp : pk.length ≤ 200) : ∀ m p (es : List (List PV)), D.length - p = m → p ≤ D.length → (∀ k, lkB es (bs k) = (D.take p).any (hasT pk k)) →
  ∃ es', lres rd_zad_57_3 [.l (D.map Cnt.e), .i (D.length : Nat), .i (p : Nat), .s s0, .s s1, .s s2, .i i, .i j, .l l8, .l (pk.map kE), .b g, .l l11, .l es] = some (0, [.l es']) ∧ ∀ k, lkB es' (bs k) = D.any (hasT pk k) := by
 intro m
 induction m with
 | zero =>
  intro p es hi hle he
  have : p = D.length := by omega
  subst this
  refine ⟨es, lres_stop (by simp [rd_zad_57_3]), fun k => ?_⟩
  rw [he, List.take_length]
 | succ m ih =>
  intro p es hi hle he
  have h : p < D.length := by omega
  have hc := hD.2 D[p] (List.getElem_mem h)
  have hmr := mayB_row hm (List.getElem_mem h)
  have h1 := gkey_res s0 s1 s2 i j l8 pk g l11 D[p].row hp hc.1 hmr
  have ht := take_cnt D h
  have row0 : cL D[p].e 0 = re D[p].row := rfl
  by_cases hk : pickOk D[p].row pk = true
  ·rw [hk, if_pos rfl] at h1
   obtain ⟨es', e1, e2⟩ := ih (p + 1) (putM es (bs (txtR (pickR D[p].row pk))) (pB true)) (by omega) (by omega) fun k => by
    rw [lkB_put, he, ht, List.any_append]
    simp only [List.any_cons, List.any_nil, Bool.or_false]
    by_cases e : bs k = bs (txtR (pickR D[p].row pk))
    ·have e' := bs_inj e
     have : hasT pk k D[p] = true := by simp [hasT, hk, e']
     rw [this]; simp [e]
    ·have : hasT pk k D[p] = false := by
      simp only [hasT, hk, Bool.true_and, decide_eq_false_iff_not]
      exact fun h4 => e (by rw [h4])
     rw [this]; simp [e]
   refine ⟨es', ?_, e2⟩
   rw [← e1]
   refine lres_next ?_
   simp only [rd_zad_57_3, rt_test, rt_next, el_map _ _ h, ln_map, inR_cast, Int.ofNat_lt, h, decide_true, if_true, row0, h1, ok_some', out_some, uB_s, uB_0, uS_0, beq_self_eq_true, w64_succ (i := p) (by omega)]
  ·have hk' : pickOk D[p].row pk = false := by simpa using hk
   rw [hk'] at h1
   obtain ⟨es', e1, e2⟩ := ih (p + 1) es (by omega) (by omega) fun k => by
    rw [he, ht, List.any_append]
    have : hasT pk k D[p] = false := by simp [hasT, hk']
    simp [this]
   refine ⟨es', ?_, e2⟩
   rw [← e1]
   refine lres_next ?_
   simp only [rd_zad_57_3, rt_test, rt_next, el_map _ _ h, ln_map, inR_cast, Int.ofNat_lt, h, decide_true, if_true, row0, h1, ok_some', out_some, uB_s, uB_0, Bool.false_eq_true, if_false, beq_self_eq_true, w64_succ (i := p) (by omega)]

theorem touched_res (D : List Cnt) (hD : okB D) (hm : mayB D = true) (h0 : D.length ≤ 1000000) (hp : pk.length ≤ 200) : ∃ es, (m_zad [.s s0, .s s1, .s s2, .i i, .i j, .l l8, .l (pk.map kE), .b g, .l l11, .l (D.map Cnt.e)]).res = some (0, [.l es]) ∧ ∀ k, lkB es (bs k) = D.any (hasT pk k) := by
 obtain ⟨es, h, he⟩ := touched_loop s0 s1 s2 i j l8 pk g l11 D hD hm h0 hp D.length 0 [] (by omega) (by omega) (fun _ => rfl)
 simp only [Int.natCast_zero] at h
 exact ⟨es, by simp only [m_zad, h, ln_map, res_test, res_stop, ok_some', out_some, uL_0, beq_self_eq_true, if_true], he⟩

theorem touch_text {D : List Cnt} (hm : mayB D = true) {r : List Val} (hr : r.all mayV = true) (hk : pickOk r pk = true) : D.any (hasT pk (txtR (pickR r pk))) = touchB pk D r := by
 unfold touchB
 rw [Bool.eq_iff_iff, List.any_eq_true, List.any_eq_true]
 refine ⟨fun ⟨d, hd, h⟩ => ⟨d, hd, ?_⟩, fun ⟨d, hd, h⟩ => ⟨d, hd, ?_⟩⟩
 ·unfold hasT at h
  rw [Bool.and_eq_true, decide_eq_true_eq] at h
  have := txtR_inj (pickR_may (mayR_all (mayB_row hm hd)) h.1) (pickR_may hr hk) h.2
  rw [h.1, this]; simp
 ·rw [Bool.and_eq_true, decide_eq_true_eq] at h
  unfold hasT
  rw [h.1, h.2]; simp

theorem of_loop (D : List Cnt) (hmD : mayB D = true) (es : List (List PV)) (hes : ∀ k, lkB es (bs k) = D.any (hasT pk k)) (B : List Cnt) (hB : okB B) (hm : mayB B = true) (h0 : B.length ≤ 1000000) (hp : pk.length ≤ 200) :
  lres rd_zag_58_3 [.l (B.map Cnt.e), .i (B.length : Nat), .i 0, .l es, .s s0, .s s1, .s s2, .i i, .i j, .l l8, .l (pk.map kE), .b g, .l l11, .l []] = some (0, [.l es, .l ((tchB pk D B).map Cnt.e)]) := by
 have h := loop_acc B.length (rd := rd_zag_58_3) (fun p => [.l (B.map Cnt.e), .i (B.length : Nat), .i (p : Nat), .l es, .s s0, .s s1, .s s2, .i i, .i j, .l l8, .l (pk.map kE), .b g, .l l11, .l ((tchB pk D (B.take p)).map Cnt.e)]) (some (0, [.l es, .l ((tchB pk D B).map Cnt.e)]))
  (lres_stop (by simp [rd_zag_58_3])) (by
  intro p h
  have row0 : cL B[p].e 0 = re B[p].row := rfl
  have row1 : cI B[p].e 1 = B[p].n := rfl
  have hc := hB.2 B[p] (List.getElem_mem h)
  have hmr := mayB_row hm (List.getElem_mem h)
  have h1 := gkey_res s0 s1 s2 i j l8 pk g l11 B[p].row hp hc.1 hmr
  have ht : tchB pk D (B.take (p + 1)) = tchB pk D (B.take p) ++ (if (pickOk B[p].row pk && touchB pk D B[p].row) = true then [B[p]] else []) := by
   rw [take_cnt B h]; unfold tchB; rw [List.filter_append]; simp [List.filter_cons]
  have hw : (((tchB pk D (B.take p)).map Cnt.e).length + 1) * 32 ≤ 140737488355328 := by
   have := tch_len pk D (B.take p)
   rw [List.length_take] at this
   rw [List.length_map]; omega
  by_cases c1 : pickOk B[p].row pk = true
  ·rw [c1, if_pos rfl] at h1
   have h2 : lkB es (bs (txtR (pickR B[p].row pk))) = touchB pk D B[p].row := by rw [hes, touch_text pk hmD (mayR_all hmr) c1]
   by_cases c2 : touchB pk D B[p].row = true
   ·have hO : (tchB pk D (B.take p)).map Cnt.e ++ [[PV.lst 39 (re B[p].row), pI B[p].n]] = (tchB pk D (B.take (p + 1))).map Cnt.e := by
     rw [ht, if_pos (by simp [c1, c2])]; simp [Cnt.e]
    simp only [rd_zag_58_3, rt_test, rt_next, rt_stop, el_map _ _ h, ln_map, inR_cast, Int.ofNat_lt, h, decide_true, if_true, row0, row1, h1, h2, c2, ok_some', out_some, uB_s, uB_0, uS_0, hw, hO, beq_self_eq_true, w64_succ (i := p) (by omega)]
   ·have c2' : touchB pk D B[p].row = false := by simpa using c2
    have hO : tchB pk D (B.take (p + 1)) = tchB pk D (B.take p) := by rw [ht, if_neg (by simp [c2']), List.append_nil]
    simp only [rd_zag_58_3, rt_test, rt_next, rt_stop, el_map _ _ h, ln_map, inR_cast, Int.ofNat_lt, h, decide_true, if_true, row0, row1, h1, h2, c2', ok_some', out_some, uB_s, uB_0, uS_0, hO, beq_self_eq_true, Bool.false_eq_true, if_false, w64_succ (i := p) (by omega)]
  ·have c1' : pickOk B[p].row pk = false := by simpa using c1
   rw [c1'] at h1
   have hO : tchB pk D (B.take (p + 1)) = tchB pk D (B.take p) := by rw [ht, if_neg (by simp [c1']), List.append_nil]
   simp only [rd_zag_58_3, rt_test, rt_next, rt_stop, el_map _ _ h, ln_map, inR_cast, Int.ofNat_lt, h, decide_true, if_true, row0, row1, h1, ok_some', out_some, uB_s, uB_0, hO, beq_self_eq_true, Bool.false_eq_true, if_false, w64_succ (i := p) (by omega)])
 exact h

/-! the document's -/

end

end Go.Proofs.YtkaljlpbmbfpgaaGreatDoor

set_option linter.unusedVariables false
set_option linter.unusedSimpArgs false
namespace Go.Proofs.YtkaljlpbmbfpgaaGreatDoor
open Go Go.Pu

theorem cmpR_app : ∀ {a b : List Val} (x y : List Val), a.length = b.length → cmpR a b < 0 → cmpR (a ++ x) (b ++ y) < 0
 | [], [], x, y, _, h => by exact absurd h (by decide)
 | [], _ :: _, _, _, h, _ => by simp at h
 | _ :: _, [], _, _, h, _ => by simp at h
 | u :: a, v :: b, x, y, hl, h => by
  have e1 : cmpR (u :: a) (v :: b) = Cmp.thn (cmpV u v) (cmpR a b) := rfl
  have e2 : cmpR (u :: a ++ x) (v :: b ++ y) = Cmp.thn (cmpV u v) (cmpR (a ++ x) (b ++ y)) := rfl
  rw [e1] at h
  rw [e2]
  unfold Cmp.thn at h ⊢
  by_cases hz : (cmpV u v != 0) = true
  ·rw [if_pos hz] at h ⊢; exact h
  ·rw [if_neg hz] at h ⊢
   exact cmpR_app x y (by simpa using hl) h

theorem groupV_may {pk : List Int} {ag : List Ag} {b : List Cnt} : mayB (groupV pk true ag b).1 = true := by
 by_cases hn : (groupV pk true ag b).1 = []
 ·rw [hn]; exact mayB_nil
 ·obtain ⟨c0, hc0⟩ := List.exists_mem_of_ne_nil _ hn
  obtain ⟨hr, h40, h0, _⟩ := groupV_row rfl hc0
  have hm := (rightB_iff.1 hr).1
  rw [mayB_iff]
  constructor
  ·have he : groupV pk true ag b = groupF pk ag b (keysB pk b) := by
    unfold groupV
    rw [if_neg (by simp [hr]), if_neg (by simp), if_neg (by omega)]
   rw [he] at h0 ⊢
   rw [groupF_eq h0]
   unfold rising
   rw [List.pairwise_map]
   have hk := keys_nodup pk b
   refine hk.imp_of_mem fun {x y} hx hy h => ?_
   obtain ⟨_, _, _, _, l1, _⟩ := key_of hx
   obtain ⟨_, _, _, _, l2, _⟩ := key_of hy
   exact cmpR_app _ _ (by rw [l1, l2]) h
  ·intro c hc
   obtain ⟨_, _, _, k, hk, ha, rfl⟩ := groupV_row rfl hc
   obtain ⟨x, hx, _, e2, l1, _⟩ := key_of hk
   obtain ⟨d, hd, hdk⟩ := List.mem_map.1 hk
   have hmk := mayB_row (pickV_may pk b) hd
   rw [hdk] at hmk
   refine goodC_iff.2 ⟨show (1 : Int) ≠ 0 by decide, show fitsN 1 = true by decide, ?_⟩
   unfold mayR
   rw [Bool.and_eq_true, decide_eq_true_eq, List.all_append, Bool.and_eq_true]
   refine ⟨?_, mayR_all hmk, ?_⟩
   ·rw [List.length_append, aggsV_len ha]; omega
   ·rw [List.all_eq_true]
    intro v hv
    obtain ⟨a, _, _, rfl⟩ := aggsV_mem v hv
    exact aggV_may (may_filter hm) _ _

theorem groupV_n {pk : List Int} {ag : List Ag} {b : List Cnt} : ∀ c ∈ (groupV pk true ag b).1, c.n = 1 := fun c hc => by
 obtain ⟨_, _, _, k, _, _, rfl⟩ := groupV_row rfl hc
 rfl

def regroupV (pk : List Int) (g : Bool) (ag : List Ag) (A D : List Cnt) : List Cnt × Int :=
 if mayB A = true ∧ mayB D = true ∧ mayB (sumB (A ++ D)) = true then
  if g = false then (pickV pk D, 0)
  else if (groupV pk true ag (tchB pk D (sumB (A ++ D)))).2 ≠ 0 then ([], (groupV pk true ag (tchB pk D (sumB (A ++ D)))).2)
  else if (groupV pk true ag (tchB pk D A)).2 ≠ 0 then ([], (groupV pk true ag (tchB pk D A)).2)
  else (sumB ((groupV pk true ag (tchB pk D (sumB (A ++ D)))).1 ++ negB (groupV pk true ag (tchB pk D A)).1), 0)
 else ([], 1)

theorem neg_okB {b : List Cnt} (h : mayB b = true) (ho : okB b) : okB (negB b) := by
 refine ⟨by unfold negB; rw [List.length_map]; exact ho.1, fun c hc => ?_⟩
 obtain ⟨d, hd, rfl⟩ := List.mem_map.1 hc
 have := mayB_n h hd
 exact ⟨(ho.2 d hd).1, by unfold i64; show -9223372036854775808 ≤ -d.n ∧ -d.n < 9223372036854775808; omega⟩

theorem absN_one' {b : List Cnt} (h : ∀ c ∈ b, c.n = 1) : absN b ≤ b.length := by
 have := absN_le (b := b) (m := 1) fun c hc => by rw [h c hc]; decide
 omega

theorem absN_neg : ∀ (b : List Cnt), absN (negB b) = absN b
 | [] => rfl
 | c :: b => by
  have e : negB (c :: b) = negC c :: negB b := rfl
  rw [e]
  show (negC c).n.natAbs + absN (negB b) = c.n.natAbs + absN b
  rw [absN_neg b]
  show (-c.n).natAbs + _ = _
  rw [Int.natAbs_neg]

theorem turn_may {b : List Cnt} (h : mayB b = true) : turnB b = negB b := by unfold turnB; rw [if_pos h]

theorem plus_two {X Y : List Cnt} (hX : mayB X = true) (hY : mayB Y = true) (lX : absN X ≤ 400000000) (lY : absN Y ≤ 400000000) : plusB [X, Y] = sumB (X ++ Y) ∧ mayB (sumB (X ++ Y)) = true := by
 have h := plusB_ok (ls := [X, Y]) (fun b hb => by
  simp only [List.mem_cons, List.mem_nil_iff, or_false] at hb
  rcases hb with rfl | rfl
  ·exact hX
  ·exact hY) fun r => by
   have := cnt_abs [X, Y].flatten r
   have e : absN [X, Y].flatten = absN X + absN Y := by
    rw [show [X, Y].flatten = X ++ Y by simp, absN_app]
   omega
 rw [show [X, Y].flatten = X ++ Y by simp] at h
 exact h

section
variable (n0 n1 w : List UInt8) (i j : Int) (l5 : List (List PV)) (pk : List Int) (g : Bool) (ag : List Ag)

theorem changed {A D : List Cnt} (hA : okB A) (hp : pk.length ≤ 200) (lA : A.length ≤ 300000) (lD : D.length ≤ 300000) {T : List Cnt} (hT : okB T) (lT : T.length ≤ 600000) :
  okB (groupV pk true ag (tchB pk D T)).1 ∧ (groupV pk true ag (tchB pk D T)).1.length ≤ 600000 ∧ okB (groupV pk true ag (tchB pk D A)).1 ∧ (groupV pk true ag (tchB pk D A)).1.length ≤ 300000 ∧
  absN (groupV pk true ag (tchB pk D T)).1 ≤ 600000 ∧ absN (groupV pk true ag (tchB pk D A)).1 ≤ 300000 := by
 have t1 := tch_len pk D T
 have t2 := tch_len pk D A
 obtain ⟨a1, a2⟩ := groupV_okB (pk := pk) (g := true) (ag := ag) (tch_okB (pk := pk) (D := D) hT) (by omega) (by omega)
 obtain ⟨b1, b2⟩ := groupV_okB (pk := pk) (g := true) (ag := ag) (tch_okB (pk := pk) (D := D) hA) (by omega) (by omega)
 have c1 := absN_one' (groupV_n (pk := pk) (ag := ag) (b := tchB pk D T))
 have c2 := absN_one' (groupV_n (pk := pk) (ag := ag) (b := tchB pk D A))
 exact ⟨a1, by omega, b1, by omega, by omega, by omega⟩

theorem GReg_res (hp : pk.length ≤ 200) (hag : ag.length ≤ 1000000) (A D : List Cnt) (hA : okB A) (hD : okB D) (lA : A.length ≤ 300000) (lD : D.length ≤ 300000) :
  (m_zag [.s (bs n0), .s (bs n1), .s (bs w), .i i, .i j, .l l5, .l (pk.map kE), .b g, .l (ag.map Ag.e), .l (A.map Cnt.e), .l (D.map Cnt.e)]).res = some (0, [.i (regroupV pk g ag A D).2, .l ((regroupV pk g ag A D).1.map Cnt.e)]) := by
 have h1 := bag_May_res A hA
 have h2 := bag_May_res D hD
 unfold regroupV
 cases mA : mayB A with
 | false =>
  rw [mA] at h1
  simp only [m_zag, h1, res_test, res_stop, ok_some', out_some, uB_0, beq_self_eq_true, if_true, Bool.not_false, Bool.false_eq_true, false_and, if_false, List.map_nil]
 | true =>
  rw [mA] at h1
  cases mD : mayB D with
  | false =>
   rw [mD] at h2
   simp only [m_zag, h1, h2, res_test, res_stop, ok_some', out_some, uB_0, beq_self_eq_true, if_true, Bool.not_true, Bool.not_false, Bool.false_eq_true, false_and, and_false, if_false, List.map_nil]
  | true =>
   rw [mD] at h2
   have aA := may_abs9 mA (by omega)
   have aD := may_abs9 mD (by omega)
   have oS : okB (A ++ D) := ⟨by rw [List.length_append]; omega, fun c hc => (List.mem_append.1 hc).elim (hA.2 c) (hD.2 c)⟩
   have aS : absN (A ++ D) ≤ 4611686018427387904 := by rw [absN_app]; omega
   have h3 := Sum_res (A ++ D) oS aS
   rw [map_app_e] at h3
   have oT := sumB_okB oS aS
   have lT := sumB_len (A ++ D)
   rw [List.length_append] at lT
   have h4 := bag_May_res _ oT
   have w1 : (0 + (A.map Cnt.e).length) * 32 ≤ 140737488355328 := by rw [List.length_map]; omega
   have w2 : ((A.map Cnt.e).length + (D.map Cnt.e).length) * 32 ≤ 140737488355328 := by rw [List.length_map, List.length_map]; omega
   generalize hT : sumB (A ++ D) = T at *
   cases mT : mayB T with
   | false =>
    rw [mT] at h4
    simp only [m_zag, h1, h2, h3, h4, w1, w2, res_test, res_stop, ok_some', out_some, uB_0, uL_0, decide_true, beq_self_eq_true, if_true, Bool.not_true, Bool.not_false, Bool.false_eq_true, and_false, if_false, List.map_nil]
   | true =>
    rw [mT] at h4
    rw [if_pos ⟨rfl, rfl, rfl⟩]
    cases g with
    | false =>
     have h5 := PickB_res n0 n1 w i j l5 pk (by omega) false (ag.map Ag.e) D hD (by omega)
     rw [if_pos rfl]
     simp only [m_zag, h1, h2, h3, h4, h5, w1, w2, res_test, res_stop, ok_some', out_some, uB_0, uL_0, decide_true, beq_self_eq_true, if_true, Bool.not_true, Bool.not_false, Bool.false_eq_true, if_false]
    | true =>
     rw [if_neg (by simp)]
     obtain ⟨es, h5, hes⟩ := touched_res (bs n0) (bs n1) (bs w) i j l5 pk true (ag.map Ag.e) D hD mD (by omega) hp
     have h6 := of_loop (bs n0) (bs n1) (bs w) i j l5 pk true (ag.map Ag.e) D mD es hes T oT mT (by omega) hp
     have h7 := of_loop (bs n0) (bs n1) (bs w) i j l5 pk true (ag.map Ag.e) D mD es hes A hA mA (by omega) hp
     have t1 := tch_len pk D T
     have t2 := tch_len pk D A
     have h8 := GRows_res i j l5 pk true n0 n1 w ag hag hp (tchB pk D T) (tch_okB oT) (by omega)
     have h9 := GRows_res i j l5 pk true n0 n1 w ag hag hp (tchB pk D A) (tch_okB hA) (by omega)
     obtain ⟨q1, q2, q3, q4, q5, q6⟩ := changed pk ag hA hp lA lD oT (by omega : T.length ≤ 600000)
     have m1 := groupV_may (pk := pk) (ag := ag) (b := tchB pk D T)
     have m2 := groupV_may (pk := pk) (ag := ag) (b := tchB pk D A)
     generalize groupV pk true ag (tchB pk D T) = N at *
     generalize groupV pk true ag (tchB pk D A) = W at *
     by_cases e1 : N.2 = 0
     ·have e1' : (N.2 != 0) = false := by simpa using e1
      rw [if_neg (by simp [e1])]
      by_cases e2 : W.2 = 0
      ·have e2' : (W.2 != 0) = false := by simpa using e2
       rw [if_neg (by simp [e2])]
       have h10 := bag_Neg_res W.1 (by omega) q3
       rw [turn_may m2] at h10
       have h11 := bag_Plus_res [N.1, negB W.1] (by simp) (by simp [negB]; omega) (fun b hb => by
        simp only [List.mem_cons, List.mem_nil_iff, or_false] at hb
        rcases hb with rfl | rfl
        ·exact q1
        ·exact neg_okB m2 q3)
       rw [(plus_two m1 (neg_may m2) (by omega) (by rw [absN_neg]; omega)).1] at h11
       have hbe : [N.1, negB W.1].map beE = [[PV.lst 49 (N.1.map Cnt.e)], [PV.lst 49 ((negB W.1).map Cnt.e)]] := rfl
       rw [hbe] at h11
       simp only [m_zag, h1, h2, h3, h4, h5, h6, h7, h8, h9, h10, h11, e1', e2', w1, w2, ln_map, res_test, res_stop, ok_some', out_some, uB_0, uL_0, uL_s, uI_0, decide_true, beq_self_eq_true, if_true, Bool.not_true, Bool.false_eq_true, if_false]
      ·have e2' : (W.2 != 0) = true := by simpa using e2
       rw [if_pos e2]
       simp only [m_zag, h1, h2, h3, h4, h5, h6, h7, h8, h9, e1', e2', w1, w2, ln_map, res_test, res_stop, ok_some', out_some, uB_0, uL_0, uL_s, uI_0, decide_true, beq_self_eq_true, if_true, Bool.not_true, Bool.false_eq_true, if_false, List.map_nil]
     ·have e1' : (N.2 != 0) = true := by simpa using e1
      rw [if_pos e1]
      simp only [m_zag, h1, h2, h3, h4, h5, h6, h8, e1', w1, w2, ln_map, res_test, res_stop, ok_some', out_some, uB_0, uL_0, uL_s, uI_0, decide_true, beq_self_eq_true, if_true, Bool.not_true, Bool.false_eq_true, if_false, List.map_nil]

/-! what the document fixes -/

def twoB (a b n : Int) : List Cnt := [⟨[⟨2, a, []⟩, ⟨2, b, []⟩], n⟩]

theorem rfixed_res : (m_zby []).res = some (0, [.b true]) := by
 have o5 : okB (twoB 1 5 1) := okB_dec (by kernel_rfl)
 have o7 : okB (twoB 1 7 1) := okB_dec (by kernel_rfl)
 have o7m : okB (twoB 1 7 (-1)) := okB_dec (by kernel_rfl)
 have o5m : okB (twoB 1 5 (-1)) := okB_dec (by kernel_rfl)
 have o5n : okB (twoB 1 5 (-2)) := okB_dec (by kernel_rfl)
 have tw : ∀ a b n, (twoB a b n).map Cnt.e = [[PV.lst 39 [[pI 2, pI a, pS (bs [])], [pI 2, pI b, pS (bs [])]], pI n]] := fun _ _ _ => rfl
 have hag : ([⟨3, 1⟩] : List Ag).map Ag.e = [[pI 3, pI 1]] := rfl
 have hag0 : ([] : List Ag).map Ag.e = [] := rfl
 have hpk : ([0] : List Int).map kE = [[pI 0]] := rfl
 have hpk1 : ([1] : List Int).map kE = [[pI 1]] := rfl
 have h0 := Both_res (twoB 1 5 1) (twoB 1 7 1) o5 o7 (mayC (by kernel_rfl)) (by decide) (by decide)
 have e0 : sumB (twoB 1 5 1 ++ twoB 1 7 1) = twoB 1 5 1 ++ twoB 1 7 1 := by kernel_rfl
 rw [e0, tw, tw] at h0
 have h1 := GReg_res [] [] [] 0 0 [] [0] true [⟨3, 1⟩] (by decide) (by decide) (twoB 1 5 1 ++ twoB 1 7 1) (twoB 1 7 (-1)) (okB_dec (by kernel_rfl)) o7m (by decide) (by decide)
 have e1 : regroupV [0] true [⟨3, 1⟩] (twoB 1 5 1 ++ twoB 1 7 1) (twoB 1 7 (-1)) = (twoB 1 5 1 ++ twoB 1 7 (-1), 0) := by kernel_rfl
 rw [e1, hag, hpk, tw 1 7 (-1)] at h1
 have h2 := GReg_res [] [] [] 0 0 [] [0] true [⟨3, 1⟩] (by decide) (by decide) (twoB 1 5 1) (twoB 1 5 (-1)) o5 o5m (by decide) (by decide)
 have e2 : regroupV [0] true [⟨3, 1⟩] (twoB 1 5 1) (twoB 1 5 (-1)) = (twoB 1 5 (-1), 0) := by kernel_rfl
 rw [e2, hag, hpk, tw, tw] at h2
 have h3 := GReg_res [] [] [] 0 0 [] [0] true [⟨3, 1⟩] (by decide) (by decide) (twoB 1 5 1) (twoB 1 5 (-2)) o5 o5n (by decide) (by decide)
 have e3 : regroupV [0] true [⟨3, 1⟩] (twoB 1 5 1) (twoB 1 5 (-2)) = ([], 1) := by kernel_rfl
 rw [e3, hag, hpk, tw, tw] at h3
 have h4 := GReg_res [] [] [] 0 0 [] [1] false [] (by decide) (by decide) [] (twoB 1 7 (-1)) nil_okB o7m (by decide) (by decide)
 have e4 : regroupV [1] false [] [] (twoB 1 7 (-1)) = ([⟨[⟨2, 7, []⟩], -1⟩], 0) := by kernel_rfl
 rw [e4, hag0, hpk1, tw] at h4
 have t1 := RbagText_res (twoB 1 5 1 ++ twoB 1 7 (-1)) (okB_dec (by kernel_rfl)) (by decide)
 have x1 : (if mayB (twoB 1 5 1 ++ twoB 1 7 (-1)) = true then txtB (twoB 1 5 1 ++ twoB 1 7 (-1)) else []) = [40, 49, 44, 32, 53, 41, 32, 40, 49, 44, 32, 55, 41, 42, 45, 49] := by kernel_rfl
 rw [x1] at t1
 have t2 := RbagText_res (twoB 1 5 (-1)) o5m (by decide)
 have x2 : (if mayB (twoB 1 5 (-1)) = true then txtB (twoB 1 5 (-1)) else []) = [40, 49, 44, 32, 53, 41, 42, 45, 49] := by kernel_rfl
 rw [x2, tw] at t2
 have t3 := RbagText_res [⟨[⟨2, 7, []⟩], -1⟩] (okB_dec (by kernel_rfl)) (by decide)
 have x3 : (if mayB [⟨[⟨2, 7, []⟩], -1⟩] = true then txtB [⟨[⟨2, 7, []⟩], -1⟩] else []) = [40, 55, 41, 42, 45, 49] := by kernel_rfl
 rw [x3] at t3
 simp only [List.map_nil] at h4
 simp only [m_zby, bs_nil, h0, h1, h2, h3, h4, t1, t2, t3, res_test, res_stop, ok_some', out_some, uL_0, uL_s, uI_0, uS_0, bs_toList, beq_self_eq_true, if_true]

theorem lsmall_res (A D : List Cnt) (hA : okB A) (hD : okB D) (hpk : pk.length ≤ 140737488355328) (hag : ag.length ≤ 140737488355328) :
  (m_zbs [.s (bs n0), .s (bs n1), .s (bs w), .i i, .i j, .l l5, .l (pk.map kE), .b g, .l (ag.map Ag.e), .l (A.map Cnt.e), .l (D.map Cnt.e)]).res = some (0, [.b (lowS A && (lowS D && (decide (pk.length ≤ 30) && decide (ag.length ≤ 30))))]) := by
 have h1 := Low_res A hA
 have h2 := Low_res D hD
 cases sA : lowS A with
 | false =>
  rw [sA] at h1
  simp only [m_zbs, h1, res_test, res_stop, ok_some', out_some, uB_0, beq_self_eq_true, if_true, Bool.false_eq_true, if_false, Bool.false_and]
 | true =>
  rw [sA] at h1
  cases sD : lowS D with
  | false =>
   rw [sD] at h2
   simp only [m_zbs, h1, h2, res_test, res_stop, ok_some', out_some, uB_0, beq_self_eq_true, if_true, Bool.false_eq_true, if_false, Bool.false_and, Bool.true_and]
  | true =>
   rw [sD] at h2
   by_cases c1 : pk.length ≤ 30
   ·have c1' : (pk.length : Int) ≤ 30 := by omega
    have c2 : decide ((ag.length : Int) ≤ 30) = decide (ag.length ≤ 30) := by rw [decide_eq_decide]; omega
    simp only [m_zbs, h1, h2, c1, c1', c2, ln_map, res_test, res_stop, ok_some', out_some, uB_0, decide_true, beq_self_eq_true, if_true, Bool.true_and]
   ·have c1' : ¬ (pk.length : Int) ≤ 30 := by omega
    simp only [m_zbs, h1, h2, c1, c1', ln_map, res_test, res_stop, ok_some', out_some, uB_0, decide_false, beq_self_eq_true, if_true, Bool.false_eq_true, if_false, Bool.false_and, Bool.true_and]

end

end Go.Proofs.YtkaljlpbmbfpgaaGreatDoor

set_option linter.unusedVariables false
set_option linter.unusedSimpArgs false
namespace Go.Proofs.YtkaljlpbmbfpgaaGreatDoor
open Go Go.Pu

/-! what is chosen -/

/-- what stands ahead, by a sign -/
def ahead (s : Int) (v w : Val) : Prop := s * cmpV v w ≤ 0

section
variable (n0 n1 w : List UInt8) (i j : Int) (l5 : List (List PV)) (pk : List Int)

theorem groupV_nil (g : Bool) (ag : List Ag) : groupV pk g ag [] = ([], 0) := by
 have hr : rightB [] = 0 := by decide
 have hp : pickV pk [] = [] := by
  rw [pickV_right hr]; rfl
 unfold groupV keysB
 rw [if_neg (by simp [hr]), hp]
 cases g with
 | false => rw [if_pos rfl]
 | true => rw [if_neg (by simp), if_neg (by simp)]; rfl

end

/-! parts -/

end Go.Proofs.YtkaljlpbmbfpgaaGreatDoor

set_option linter.unusedVariables false
set_option linter.unusedSimpArgs false
namespace Go.Proofs.YtkaljlpbmbfpgaaGreatDoor
open Go Go.Pu

/-! each row is in just one group -/

section
variable (s5 s6 s7 : ByteArray) (i j : Int) (l10 : List (List PV)) (pk : List Int)

end

end Go.Proofs.YtkaljlpbmbfpgaaGreatDoor

set_option linter.unusedVariables false
set_option linter.unusedSimpArgs false
namespace Go.Proofs.YtkaljlpbmbfpgaaGreatDoor
open Go Go.Pu

/-! keys that are touched -/

def tkB (pk : List Int) (D : List Cnt) (k : List Val) : Bool := D.any fun d => pickOk d.row pk && decide (k = pickR d.row pk)

theorem mem_tch {pk : List Int} {D b : List Cnt} {c : Cnt} : c ∈ tchB pk D b ↔ c ∈ b ∧ pickOk c.row pk = true ∧ tkB pk D (pickR c.row pk) = true := by
 unfold tchB
 rw [List.mem_filter, Bool.and_eq_true]
 exact Iff.rfl

theorem regroupV_okB {pk : List Int} {g : Bool} {ag : List Ag} {A D : List Cnt} (hA : okB A) (hD : okB D) (hp : pk.length ≤ 200) (lA : A.length ≤ 300000) (lD : D.length ≤ 300000) : okB (regroupV pk g ag A D).1 ∧ (regroupV pk g ag A D).1.length ≤ 900000 := by
 unfold regroupV
 split
 ·rename_i hm
  have aA := may_abs9 hm.1 (by omega)
  have aD := may_abs9 hm.2.1 (by omega)
  have oT : okB (sumB (A ++ D)) := sumB_okB ⟨by rw [List.length_append]; omega, fun c hc => (List.mem_append.1 hc).elim (hA.2 c) (hD.2 c)⟩ (by rw [absN_app]; omega)
  have lT := sumB_len (A ++ D)
  rw [List.length_append] at lT
  split
  ·have := pickV_okB hD (by omega : D.length ≤ 1000000) (by omega : pk.length ≤ 1000000)
   exact ⟨this.1, show (pickV pk D).length ≤ 900000 by omega⟩
  ·split
   ·exact ⟨nil_okB, by simp⟩
   ·split
    ·exact ⟨nil_okB, by simp⟩
    ·obtain ⟨q1, q2, q3, q4, q5, q6⟩ := changed (D := D) pk ag hA hp lA lD oT (by omega)
     have ln : (negB (groupV pk true ag (tchB pk D A)).1).length ≤ 300000 := by unfold negB; rw [List.length_map]; exact q4
     refine ⟨sumB_okB ⟨by rw [List.length_append]; omega, fun c hc => (List.mem_append.1 hc).elim (q1.2 c) ((neg_okB groupV_may q3).2 c)⟩ (by rw [absN_app, absN_neg]; omega), ?_⟩
     have := sumB_len ((groupV pk true ag (tchB pk D (sumB (A ++ D)))).1 ++ negB (groupV pk true ag (tchB pk D A)).1)
     rw [List.length_append] at this
     show (sumB _).length ≤ 900000
     omega
 ·exact ⟨nil_okB, by simp⟩

/-! the laws -/

theorem small4 {A D : List Cnt} {m n : Nat} (h : (lowS A && (lowS D && (decide (m ≤ 30) && decide (n ≤ 30)))) = true) : lowS A = true ∧ lowS D = true ∧ m ≤ 30 ∧ n ≤ 30 := by
 simp only [Bool.and_eq_true, decide_eq_true_eq] at h
 exact ⟨h.1, h.2.1, h.2.2.1, h.2.2.2⟩

section
variable (n0 n1 w : List UInt8) (i j : Int) (l5 : List (List PV)) (pk : List Int) (hpk : pk.length ≤ 140737488355328) (g : Bool) (ag : List Ag) (hag : ag.length ≤ 140737488355328) (A D : List Cnt) (hA : okB A) (hD : okB D)
include hpk hag hA hD

end

end Go.Proofs.YtkaljlpbmbfpgaaGreatDoor

set_option linter.unusedVariables false
set_option linter.unusedSimpArgs false
namespace Go.Proofs.YtkaljlpbmbfpgaaGreatDoor
open Go Go.Pu

def absC (c : Cnt) : Cnt := ⟨c.row, max c.n (-c.n)⟩
def absB (b : List Cnt) : List Cnt := b.map absC

theorem abs_right {D : List Cnt} (mD : mayB D = true) (hl : lowS D = true) : rightB (absB D) = 0 := by
 obtain ⟨d1, d2, d3⟩ := lowS_of hl
 have hr := mayC mD
 have pos : ∀ c ∈ absB D, 1 ≤ c.n ∧ c.n ≤ 1000 := fun c hc => by
  obtain ⟨d, hd, rfl⟩ := List.mem_map.1 hc
  have h1 := hr.2 d hd
  have h2 := d3 d hd
  show 1 ≤ max d.n (-d.n) ∧ max d.n (-d.n) ≤ 1000
  omega
 refine rightB_iff.2 ⟨mayB_iff.2 ⟨rising_map (f := absC) (fun _ => rfl) hr.1, fun c hc => ?_⟩, negFree_iff.2 fun c hc => by have := pos c hc; omega, ?_⟩
 ·obtain ⟨d, hd, rfl⟩ := List.mem_map.1 hc
  have h1 := pos _ (List.mem_map.2 ⟨d, hd, rfl⟩)
  exact goodC_iff.2 ⟨by omega, fitsN_iff.2 (by omega), mayB_row (c := d) mD hd⟩
 ·have h1 := sumN_abs' (absB D)
  have h2 := absN_le (b := absB D) (m := 1000) fun c hc => by have := pos c hc; omega
  have h3 : (absB D).length = D.length := by unfold absB; rw [List.length_map]
  have h4 : D.length * 1000 ≤ 60 * 1000 := Nat.mul_le_mul_right _ d1
  rw [h3] at h2
  omega

theorem abs_okB {D : List Cnt} (hD : okB D) (hl : lowS D = true) : okB (absB D) := by
 obtain ⟨d1, d2, d3⟩ := lowS_of hl
 refine ⟨by unfold absB; rw [List.length_map]; exact hD.1, fun c hc => ?_⟩
 obtain ⟨d, hd, rfl⟩ := List.mem_map.1 hc
 have := d3 d hd
 exact ⟨(hD.2 d hd).1, by unfold i64; show -9223372036854775808 ≤ max d.n (-d.n) ∧ max d.n (-d.n) < 9223372036854775808; omega⟩

theorem labs_res (D : List Cnt) (hl : lowS D = true) : (m_zbv [.l (D.map Cnt.e)]).res = some (0, [.l ((absB D).map Cnt.e)]) := by
 obtain ⟨d1, d2, d3⟩ := lowS_of hl
 have h := loop_acc D.length (rd := rd_zbv_33_3) (fun p => [.l (D.map Cnt.e), .i (p : Nat), .l ((absB (D.take p)).map Cnt.e)]) (some (0, [.l ((absB D).map Cnt.e)]))
  (lres_stop (by simp [rd_zbv_33_3])) (by
  intro p h
  have row0 : cL D[p].e 0 = re D[p].row := rfl
  have row1 : cI D[p].e 1 = D[p].n := rfl
  have hn := d3 D[p] (List.getElem_mem h)
  have hw : w64 (0 - D[p].n) = -D[p].n := by rw [w64_eq (by omega) (by omega)]; omega
  have hmx : (if -D[p].n > D[p].n then -D[p].n else D[p].n) = max D[p].n (-D[p].n) := by split <;> omega
  have hmx2 : (if D[p].n < -D[p].n then -D[p].n else D[p].n) = max D[p].n (-D[p].n) := by split <;> omega
  have ht : (absB (D.take p)).map Cnt.e ++ [[PV.lst 39 (re D[p].row), pI (max D[p].n (-D[p].n))]] = (absB (D.take (p + 1))).map Cnt.e := by
   rw [take_cnt D h]; unfold absB; rw [List.map_append, List.map_append]; rfl
  have hr : (((absB (D.take p)).map Cnt.e).length + 1) * 32 ≤ 140737488355328 := by
   have : ((absB (D.take p)).map Cnt.e).length ≤ 60 := by unfold absB; rw [List.length_map, List.length_map, List.length_take]; omega
   omega
  simp only [rd_zbv_33_3, rt_test, rt_next, rt_stop, el_map _ _ h, ln_map, inR_cast, Int.ofNat_lt, h, decide_true, if_true, row0, row1, hw, hmx, hmx2, hr, ht, Bool.false_eq_true, if_false, w64_succ (i := p) (by omega)])
 have h : lres rd_zbv_33_3 [.l (D.map Cnt.e), .i 0, .l []] = some (0, [.l ((absB D).map Cnt.e)]) := h
 simp only [m_zbv, h, res_test, res_stop, ok_some', out_some, uL_0, beq_self_eq_true, if_true]

/-- a row of what changes -/
theorem regroup_row {pk : List Int} {ag : List Ag} {A D : List Cnt} {c : Cnt} (hc : c ∈ (regroupV pk true ag A D).1) :
  (c.n = 1 ∨ c.n = -1) ∧ ∃ k v, c.row = k ++ v ∧ k.length = pk.length ∧ v.length = ag.length ∧ k.length ≤ 40 ∧ tkB pk D k = true := by
 have row : ∀ (b : List Cnt) (d : Cnt), d ∈ (groupV pk true ag (tchB pk D b)).1 → ∃ k v, d.row = k ++ v ∧ k.length = pk.length ∧ v.length = ag.length ∧ k.length ≤ 40 ∧ tkB pk D k = true := fun b d hd => by
  obtain ⟨_, _, _, k, hk, ha, rfl⟩ := groupV_row rfl hd
  obtain ⟨x, hx, h1, h2, h3, h4⟩ := key_of hk
  refine ⟨k, _, rfl, h3, aggsV_len ha, h4, ?_⟩
  rw [← h2]
  exact (mem_tch.1 hx).2.2
 have zo : ∀ (b : List Cnt) (r : List Val), cnt (groupV pk true ag b).1 r = 0 ∨ cnt (groupV pk true ag b).1 r = 1 := fun b r => by
  by_cases h : cnt (groupV pk true ag b).1 r = 0
  ·exact .inl h
  ·obtain ⟨d, hd, hr⟩ := cnt_ne h
   have := cnt_mem (mayC (groupV_may (pk := pk) (ag := ag) (b := b))).1 hd
   rw [hr, groupV_n d hd] at this
   exact .inr this
 unfold regroupV at hc
 split at hc
 ·rw [if_neg (by simp)] at hc
  split at hc
  ·cases hc
  ·split at hc
   ·cases hc
   ·refine ⟨?_, ?_⟩
    ·have hn := sumB_n hc
     have h0 := (sumB_canon _).2 c hc
     rw [cnt_app, cnt_neg] at hn
     rcases zo (tchB pk D (sumB (A ++ D))) c.row with h1 | h1 <;> rcases zo (tchB pk D A) c.row with h2 | h2 <;> omega
    ·obtain ⟨d, hd, hr⟩ := sumB_row hc
     rw [← hr]
     rcases List.mem_append.1 hd with h | h
     ·exact row _ d h
     ·obtain ⟨x, hx, rfl⟩ := List.mem_map.1 h
      exact row _ x hx
 ·cases hc

theorem tk_key {pk : List Int} {D : List Cnt} (mD : mayB D = true) (hl : lowS D = true) {k : List Val} (hk : tkB pk D k = true) (h40 : pk.length ≤ 40) : getB (pickV pk (absB D)) k ≠ 0 := by
 unfold tkB at hk
 obtain ⟨d, hd, h⟩ := List.any_eq_true.1 hk
 rw [Bool.and_eq_true, decide_eq_true_eq] at h
 have hm := key_in (abs_right mD hl) (c := absC d) (List.mem_map.2 ⟨d, hd, rfl⟩) h.1 h40
 have e : pickR (absC d).row pk = k := h.2.symm
 rw [e] at hm
 obtain ⟨x, hx, hr⟩ := List.mem_map.1 hm
 have mp := pickV_may pk (absB D)
 rw [getB_eq mp, ← hr, cnt_mem (mayC mp).1 hx]
 exact (mayC mp).2 x hx

section
variable (n0 n1 w : List UInt8) (i j : Int) (l5 : List (List PV)) (pk : List Int) (hpk : pk.length ≤ 140737488355328) (g : Bool) (ag : List Ag) (hag : ag.length ≤ 140737488355328) (A D : List Cnt) (hA : okB A) (hD : okB D)

theorem limited_loop (e f : Int) (N : List (List PV)) (R : List Cnt) (hR : okB R) (lR : R.length ≤ 1000000) (mD : mayB D = true) (hl : lowS D = true) (p30 : pk.length ≤ 30) (a30 : ag.length ≤ 30) (oK : okB (pickV pk (absB D))) (lK : (pickV pk (absB D)).length ≤ 1000000)
  (hc : ∀ c ∈ R, (c.n = 1 ∨ c.n = -1) ∧ ∃ k v, c.row = k ++ v ∧ k.length = pk.length ∧ v.length = ag.length ∧ k.length ≤ 40 ∧ tkB pk D k = true) :
  lres rd_zch_10_7 [.i e, .i f, .i 0, .s (bs n0), .s (bs n1), .s (bs w), .i i, .i j, .l l5, .l (pk.map kE), .b g, .l (ag.map Ag.e), .l (R.map Cnt.e), .l N, .l ((pickV pk (absB D)).map Cnt.e)] = some (1, [.i e, .i f, .l (R.map Cnt.e), .l N]) := by
 have h := loop_acc R.length (rd := rd_zch_10_7) (fun p => [.i e, .i f, .i (p : Nat), .s (bs n0), .s (bs n1), .s (bs w), .i i, .i j, .l l5, .l (pk.map kE), .b g, .l (ag.map Ag.e), .l (R.map Cnt.e), .l N, .l ((pickV pk (absB D)).map Cnt.e)]) (some (1, [.i e, .i f, .l (R.map Cnt.e), .l N]))
  (lres_stop (by simp [rd_zch_10_7])) (by
  intro p h
  obtain ⟨hn, k, v, hrow, h1, h2, h3, h4⟩ := hc R[p] (List.getElem_mem h)
  have row0 : cL R[p].e 0 = re R[p].row := rfl
  have row1 : cI R[p].e 1 = R[p].n := rfl
  have hlt : Int.toNat ((p : Nat) : Int) < (R.map Cnt.e).length := by simp; exact h
  have hln : ln (re R[p].row) = ((pk.length + ag.length : Nat) : Int) := by rw [ln_re, hrow, List.length_append]; omega
  have hw : w64 ((pk.length : Int) + (ag.length : Int)) = ((pk.length + ag.length : Nat) : Int) := by rw [w64_eq (by omega) (by omega)]; omega
  have htk : List.take (Int.toNat (pk.length : Int) - 0) (List.drop 0 (re R[p].row)) = re k := by
   rw [hrow]
   simp [re, ← h1]
  have hin : ((0 : Int) ≤ 0 ∧ (0 : Int) ≤ (pk.length : Int) ∧ (pk.length : Int) ≤ ((pk.length + ag.length : Nat) : Int)) := by omega
  have hg := RGet_res (pickV pk (absB D)) lK oK k
  have hne : (getB (pickV pk (absB D)) k == 0) = false := by
   rw [beq_eq_false_iff_ne]; exact tk_key mD hl h4 (by omega)
  have n11 : ((-1 : Int) != 1) = true := rfl
  rcases hn with hn | hn
  ·rw [hn] at row1
   simp only [rd_zch_10_7, rt_test, rt_next, rt_stop, el_map _ _ h, ln_map, inR_cast, Int.ofNat_lt, h, hlt, decide_true, if_true, row0, row1, hln, hw, htk, hin, and_self, hg, hne, ok_some', out_some, uI_0, beq_self_eq_true, bne_self_eq_false, Bool.false_eq_true, if_false, w64_succ (i := p) (by omega)]
  ·rw [hn] at row1
   simp only [rd_zch_10_7, rt_test, rt_next, rt_stop, el_map _ _ h, ln_map, inR_cast, Int.ofNat_lt, h, hlt, decide_true, if_true, row0, row1, n11, hln, hw, htk, hin, and_self, hg, hne, ok_some', out_some, uI_0, beq_self_eq_true, bne_self_eq_false, Bool.false_eq_true, if_false, w64_succ (i := p) (by omega)])
 exact h

include hpk hag hA hD

theorem regroupLimited_res :
  (m_zch [.s (bs n0), .s (bs n1), .s (bs w), .i i, .i j, .l l5, .l (pk.map kE), .b g, .l (ag.map Ag.e), .l (A.map Cnt.e), .l (D.map Cnt.e)]).res = some (0, [.b true]) := by
 have hf := rfixed_res
 have h0 := lsmall_res n0 n1 w i j l5 pk g ag A D hA hD hpk hag
 by_cases hs : (lowS A && (lowS D && (decide (pk.length ≤ 30) && decide (ag.length ≤ 30)))) = true
 ·obtain ⟨sA, sD, p30, a30⟩ := small4 hs
  rw [hs] at h0
  obtain ⟨a1, a2, a3⟩ := lowS_of sA
  obtain ⟨d1, d2, d3⟩ := lowS_of sD
  have r1 := R05_May_res A hA
  have r2 := R05_May_res D hD
  cases mA : mayB A with
  | false =>
   rw [mA] at r1
   simp only [m_zch, hf, h0, r1, res_test, res_stop, ok_some', out_some, uB_0, beq_self_eq_true, if_true, Bool.not_true, Bool.not_false, Bool.false_eq_true, if_false]
  | true =>
   rw [mA] at r1
   cases mD : mayB D with
   | false =>
    rw [mD] at r2
    simp only [m_zch, hf, h0, r1, r2, res_test, res_stop, ok_some', out_some, uB_0, beq_self_eq_true, if_true, Bool.not_true, Bool.not_false, Bool.false_eq_true, if_false]
   | true =>
    rw [mD] at r2
    cases g with
    | false => simp only [m_zch, hf, h0, r1, r2, res_test, res_stop, ok_some', out_some, uB_0, beq_self_eq_true, if_true, Bool.not_true, Bool.not_false, Bool.false_eq_true, if_false]
    | true =>
     have h1 := GReg_res n0 n1 w i j l5 pk true ag (by omega) (by omega) A D hA hD (by omega) (by omega)
     have h2 := GReg_res n0 n1 w i j l5 pk true ag (by omega) (by omega) A [] hA nil_okB (by omega) (by simp)
     have e2 : regroupV pk true ag A [] = ([], 0) := by
      have t0 : ∀ b, tchB pk [] b = [] := fun b => by
       unfold tchB
       rw [List.filter_eq_nil_iff]
       intro c _
       simp [touchB]
      unfold regroupV
      rw [List.append_nil, sumB_self (mayC mA), if_pos ⟨mA, mayB_nil, mA⟩, if_neg (by simp), t0, groupV_nil, if_neg (by simp), if_neg (by simp)]
      rfl
     rw [e2] at h2
     have h3 := labs_res D sD
     have lab : (absB D).length = D.length := by unfold absB; rw [List.length_map]
     have h4 := RPick_res (n0 := n0) (n1 := n1) (w := w) (i := i) (j := j) (l5 := l5) (b7 := true) (l8 := ag.map Ag.e) (P := pk) (hP := by omega) (B := absB D) (hB := abs_okB hD sD) (h0 := by omega)
     have oK := pickV_okB (abs_okB hD sD) (by omega : (absB D).length ≤ 1000000) (by omega : pk.length ≤ 1000000)
     have rg := regroupV_okB (pk := pk) (g := true) (ag := ag) hA hD (by omega) (by omega) (by omega)
     have h5 := limited_loop n0 n1 w i j l5 pk true ag D (regroupV pk true ag A D).2 0 [] (regroupV pk true ag A D).1 rg.1 (by omega) mD sD p30 a30 oK.1 (by omega) fun c hc => regroup_row hc
     simp only [List.map_nil] at h2
     have n10 : ((0 : Nat) == 1) = false := rfl
     have n01 : ((1 : Nat) == 0) = false := rfl
     cases k0 : ((regroupV pk true ag A D).2 == 0) with
     | true => simp only [m_zch, hf, h0, r1, r2, h1, h2, h3, h4, h5, k0, n10, n01, ln_nil, res_test, res_stop, ok_some', out_some, uB_0, uL_0, uL_s, uI_0, uI_s, beq_self_eq_true, if_true, Bool.not_true, Bool.false_eq_true, if_false]
     | false =>
      have z : (regroupV pk true ag A D).1 = [] := by
       have hz : (regroupV pk true ag A D).2 ≠ 0 := by simpa using k0
       unfold regroupV at hz ⊢
       split at hz
       ·rename_i hm
        rw [if_pos hm, if_neg (by simp)]
        rw [if_neg (by simp)] at hz
        split at hz
        ·rename_i hn; rw [if_pos hn]
        ·rename_i hn
         rw [if_neg hn]
         split at hz
         ·rename_i hw; rw [if_pos hw]
         ·exact absurd rfl hz
       ·rename_i hm; rw [if_neg hm]
      rw [z] at h1 h5
      simp only [List.map_nil] at h1 h5
      simp only [m_zch, hf, h0, r1, r2, h1, h2, h3, h4, h5, k0, n10, n01, ln_nil, res_test, res_stop, ok_some', out_some, uB_0, uL_0, uL_s, uI_0, uI_s, beq_self_eq_true, if_true, Bool.not_true, Bool.false_eq_true, if_false]
 ·have hs' : (lowS A && (lowS D && (decide (pk.length ≤ 30) && decide (ag.length ≤ 30)))) = false := by simpa using hs
  rw [hs'] at h0
  simp only [m_zch, hf, h0, res_test, res_stop, ok_some', out_some, uB_0, beq_self_eq_true, if_true, Bool.not_true, Bool.not_false, Bool.false_eq_true, if_false]

end

end Go.Proofs.YtkaljlpbmbfpgaaGreatDoor

set_option linter.unusedVariables false
set_option linter.unusedSimpArgs false
namespace Go.Proofs.YtkaljlpbmbfpgaaGreatDoor
open Go Go.Pu

theorem gd_ints {x : PV} (h : Gd Tryz.prog (.sl 3) x) : ∃ l : List Int, x = .lst 3 (l.map kE) ∧ l.length ≤ 140737488355328 := by
 obtain ⟨l, e, h1, _⟩ := gd_listC (f := kE) (p := fun _ => True) (ks := [.int .i64]) (b := 8) (by kernel_rfl) (by kernel_rfl) (by decide) (fun e he => by
  obtain ⟨hl, hg⟩ := gds_cells he
  match e, hl, hg with
  | [a], _, hg =>
   obtain ⟨n, rfl, hn⟩ := gd_int (hg 0 (by decide))
   exact ⟨n, rfl, trivial⟩) h
 exact ⟨l, e, h1⟩

theorem gd_boolV {x : PV} (h : Gd Tryz.prog .bool x) : ∃ b, x = pB b := by
 cases h with
 | bool b => exact ⟨b, rfl⟩

/-- a view's cells -/
def Vw.e (v : Vw) : List PV := [pS (bs v.n0), pS (bs v.n1), pS (bs v.w), pI v.i, pI v.j, .lst 192 (v.wh.map Nd.e), .lst 3 (v.pk.map kE), pB v.g, .lst 32 v.ag]
def Vw.us (v : Vw) : List U := [.s (bs v.n0), .s (bs v.n1), .s (bs v.w), .i v.i, .i v.j, .l (v.wh.map Nd.e), .l (v.pk.map kE), .b v.g, .l v.ag]

set_option maxRecDepth 100000 in
theorem arg_bagQ {x : PV} (h : ArgGd Tryz.prog 30 x) : ∃ b : List Cnt, x = .lst 49 (b.map Cnt.e) ∧ okB b := by
 have e : ArgGd Tryz.prog 30 x = Gd Tryz.prog (.sl 49) x := by kernel_rfl
 rw [e] at h
 obtain ⟨l, e, h1, h2⟩ := gd_bag h
 exact ⟨l, e, h1, h2⟩

end Go.Proofs.YtkaljlpbmbfpgaaGreatDoor

set_option linter.unusedVariables false
set_option linter.unusedSimpArgs false
namespace Go.Proofs.YtkaljlpbmbfpgaaGreatDoor
open Go Go.Pu

theorem gd_aggs {x : PV} (h : Gd Tryz.prog (.sl 32) x) : ∃ l : List Ag, x = .lst 32 (l.map Ag.e) ∧ l.length ≤ 140737488355328 := by
 obtain ⟨l, e, h1, _⟩ := gd_listC (f := Ag.e) (p := fun _ => True) (ks := [.int .i64, .int .i64]) (b := 16) (by kernel_rfl) (by kernel_rfl) (by decide) (fun e he => by
  obtain ⟨hl, hg⟩ := gds_cells he
  match e, hl, hg with
  | [a, b], _, hg =>
   obtain ⟨n, rfl, _⟩ := gd_int (hg 0 (by decide))
   obtain ⟨m, rfl, _⟩ := gd_int (hg 1 (by decide))
   exact ⟨⟨n, m⟩, rfl, trivial⟩) h
 exact ⟨l, e, h1⟩

set_option maxRecDepth 100000 in
theorem arg_gview {x : PV} (h : ArgGd Tryz.prog 28 x) : ∃ (n0 n1 w : List UInt8) (i j : Int) (l5 : List (List PV)) (pk : List Int) (g : Bool) (ag : List Ag),
  x = .agg [pS (bs n0), pS (bs n1), pS (bs w), pI i, pI j, .lst 192 l5, .lst 3 (pk.map kE), pB g, .lst 32 (ag.map Ag.e)] ∧ pk.length ≤ 140737488355328 ∧ ag.length ≤ 140737488355328 := by
 have e : ArgGd Tryz.prog 28 x = ∃ xs, x = .agg xs ∧ Gds Tryz.prog [.str, .str, .str, .int .i64, .int .i64, .sl 192, .sl 3, .bool, .sl 32] xs := by kernel_rfl
 rw [e] at h
 obtain ⟨xs, rfl, hg⟩ := h
 obtain ⟨hl, hg⟩ := gds_cells hg
 match xs, hl, hg with
 | [a, b, c, d, f, g, k, m, n], _, hg =>
  obtain ⟨n0, rfl, _⟩ := gd_str (hg 0 (by decide))
  obtain ⟨n1, rfl, _⟩ := gd_str (hg 1 (by decide))
  obtain ⟨w, rfl, _⟩ := gd_str (hg 2 (by decide))
  obtain ⟨i, rfl, _⟩ := gd_int (hg 3 (by decide))
  obtain ⟨j, rfl, _⟩ := gd_int (hg 4 (by decide))
  obtain ⟨E, rfl, _, _⟩ := gd_lst (hg 5 (by decide))
  obtain ⟨P, rfl, p1⟩ := gd_ints (hg 6 (by decide))
  obtain ⟨z, rfl⟩ := gd_boolV (hg 7 (by decide))
  obtain ⟨ag, rfl, a1⟩ := gd_aggs (hg 8 (by decide))
  exact ⟨n0, n1, w, i, j, E, P, z, ag, rfl, p1, a1⟩

end Go.Proofs.YtkaljlpbmbfpgaaGreatDoor
