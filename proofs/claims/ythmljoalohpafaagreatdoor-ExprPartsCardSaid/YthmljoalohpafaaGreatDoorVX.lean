/- Texts of this seat, one behind the other. -/
import Derived.Test.YthmljoalohpafaaGreatDoorKX
import Derived.Test.YthmljoalohpafaaGreatDoorTC
import Derived.Test.YthmljoalohpafaaGreatDoorGX
import Derived.Test.YthmljoalohpafaaGreatDoorSE
import Derived.SizedLaws
set_option linter.unusedVariables false
set_option linter.unusedSimpArgs false
namespace Go.Proofs.YthmljoalohpafaaGreatDoor
open Go Go.Pu

structure Val where
  k : Int
  n : Int
  s : List UInt8
  deriving DecidableEq

instance : Inhabited Val := ⟨⟨0, 0, []⟩⟩

def Val.e (v : Val) : List PV := [pI v.k, pI v.n, pS (bs v.s)]
def re (r : List Val) : List (List PV) := r.map Val.e

@[simp] theorem ln_re (r : List Val) : ln (re r) = r.length := ln_map _ _
theorem el_re (r : List Val) {i : Nat} (h : i < r.length) : el (re r) i = Val.e r[i] := el_map _ _ h

/-! the order of values, and of rows -/

def cmpB (a b : UInt8) : Int := Cmp.cmpI a.toNat b.toNat

theorem bytes_lst : ∀ a b : List UInt8, Lib.compareBytes a b = Cmp.lstC cmpB a b
  | [], [] => rfl
  | [], _ :: _ => rfl
  | _ :: _, [] => rfl
  | a :: xs, b :: ys => by
    simp only [Lib.compareBytes, Cmp.lstC, bytes_lst xs ys]
    have h : ∀ x y : UInt8, x < y ↔ (x.toNat : Int) < y.toNat := fun x y => by rw [UInt8.lt_iff_toNat_lt]; omega
    simp only [cmpB, Cmp.cmpI, Cmp.thn, h]
    (repeat' split) <;> first | rfl | (exfalso; omega) | simp_all

theorem cmpBytes : Cmp Lib.compareBytes := by
  have h1 : Cmp cmpB := Cmp.int.pull (fun x : UInt8 => (x.toNat : Int)) fun a b h => UInt8.toNat_inj.1 (by exact_mod_cast h)
  have h2 := h1.list
  have : Lib.compareBytes = Cmp.lstC cmpB := by funext a b; exact bytes_lst a b
  rw [this]; exact h2

def cmpV (a b : Val) : Int := Cmp.thn (Cmp.cmpI a.k b.k) (Cmp.thn (Cmp.cmpI a.n b.n) (Lib.compareBytes a.s b.s))

theorem cV : Cmp cmpV :=
  (Cmp.int.both (Cmp.int.both cmpBytes)).pull (fun v : Val => (v.k, v.n, v.s)) fun a b h => by
    obtain ⟨_, _, _⟩ := a; obtain ⟨_, _, _⟩ := b; simp only [Prod.mk.injEq] at h; obtain ⟨rfl, rfl, rfl⟩ := h; rfl

def cmpR : List Val → List Val → Int := Cmp.lstC cmpV
theorem cR : Cmp cmpR := cV.list

/-- may a value be? a row? -/
def mayV (v : Val) : Bool :=
  if v.k = 0 then v.n == 0 && v.s == [] else if v.k = 1 then (v.n == 0 || v.n == 1) && v.s == [] else if v.k = 2 then v.s == [] else v.k == 3 && v.n == 0 && decide (v.s.length ≤ 1000)
def mayR (r : List Val) : Bool := decide (r.length ≤ 40) && r.all mayV

/-! what a law is handed -/

def big : Nat := 140737488355328

theorem lst_map {α : Type} {f : α → List PV} {p : α → Prop} : ∀ {es : List (List PV)}, (∀ e ∈ es, ∃ a, e = f a ∧ p a) → ∃ l : List α, es = l.map f ∧ ∀ a ∈ l, p a
  | [], _ => ⟨[], rfl, fun _ h => by cases h⟩
  | e :: es, h => by
    obtain ⟨a, rfl, ha⟩ := h e (by simp)
    obtain ⟨l, rfl, hl⟩ := lst_map (es := es) fun e he => h e (by simp [he])
    exact ⟨a :: l, rfl, List.forall_mem_cons.2 ⟨ha, hl⟩⟩

theorem gd_int {P : Program} {x : PV} (h : Gd P (.int .i64) x) : ∃ n, x = pI n ∧ -9223372036854775808 ≤ n ∧ n < 9223372036854775808 := by
  cases h with
  | int _ n hn =>
    refine ⟨n, rfl, ?_⟩
    simp only [Lit.wf, IntKind.min, IntKind.max, IntKind.bits, IntKind.signed, Bool.and_eq_true, decide_eq_true_eq] at hn
    simp at hn
    omega

theorem gd_str {P : Program} {x : PV} (h : Gd P .str x) : ∃ s : List UInt8, x = pS (bs s) ∧ s.length ≤ big := by
  cases h with
  | str s hs => exact ⟨s.data.toList, rfl, Nat.le_trans (by rw [Array.length_toList]; exact hs) (by decide)⟩

theorem gd_lst {P : Program} {t : TypeId} {x : PV} (h : Gd P (.sl t) x) : ∃ es, x = .lst t es ∧ es.length * P.bytesOf t ≤ big ∧ ∀ e ∈ es, Gds P (kds P t) e := by
  cases h with
  | sl t es h1 h2 h3 h4 =>
    refine ⟨es, rfl, Nat.le_trans h1 (by decide), fun e he => ?_⟩
    obtain ⟨i, hi, rfl⟩ := List.mem_iff_getElem.1 he
    have e1 : es.getD i [] = es[i] := by simp [List.getD, hi]
    have g3 := h3 i hi
    have g4 := fun j => h4 i j hi
    rw [e1] at g3
    simp only [e1] at g4
    exact ⟨g3, g4⟩

def i64 (n : Int) : Prop := -9223372036854775808 ≤ n ∧ n < 9223372036854775808
def Val.ok (v : Val) : Prop := i64 v.k ∧ i64 v.n ∧ v.s.length ≤ big
def okR (r : List Val) : Prop := r.length ≤ 4398046511104 ∧ ∀ v ∈ r, v.ok
/-- cells, one by one -/
theorem gds_cells {P : Program} {ks : List Kd} {xs : List PV} (h : Gds P ks xs) : xs.length = ks.length ∧ ∀ j, j < ks.length → Gd P (ks.getD j .other) (xs.getD j .top) := ⟨h.len, h.gd⟩

theorem val_cells {a b c : PV} (h0 : Gd Tryz.prog (.int .i64) a) (h1 : Gd Tryz.prog (.int .i64) b) (h2 : Gd Tryz.prog .str c) : ∃ v : Val, a = pI v.k ∧ b = pI v.n ∧ c = pS (bs v.s) ∧ v.ok := by
  obtain ⟨k, rfl, k1⟩ := gd_int h0
  obtain ⟨n, rfl, n1⟩ := gd_int h1
  obtain ⟨s, rfl, s1⟩ := gd_str h2
  exact ⟨⟨k, n, s⟩, rfl, rfl, rfl, k1, n1, s1⟩

/-- a list of some cells, each of its kind -/
theorem gd_list {α : Type} {t : TypeId} {ks : List Kd} {b : Nat} {f : α → List PV} {p : α → Prop} (hk : kds Tryz.prog t = ks) (hb : Tryz.prog.bytesOf t = b) (hb1 : 32 ≤ b)
    (hc : ∀ e, Gds Tryz.prog ks e → ∃ a, e = f a ∧ p a) {x : PV} (h : Gd Tryz.prog (.sl t) x) : ∃ l : List α, x = .lst t (l.map f) ∧ l.length ≤ 4398046511104 ∧ ∀ a ∈ l, p a := by
  obtain ⟨es, rfl, h1, h2⟩ := gd_lst h
  rw [hk] at h2
  rw [hb] at h1
  obtain ⟨l, rfl, hl⟩ := lst_map fun e he => hc e (h2 e he)
  refine ⟨l, rfl, ?_, hl⟩
  rw [List.length_map] at h1
  have : l.length * 32 ≤ l.length * b := Nat.mul_le_mul_left _ hb1
  unfold big at h1
  omega

theorem gd_row {x : PV} (h : Gd Tryz.prog (.sl 31) x) : ∃ r : List Val, x = .lst 31 (re r) ∧ okR r := by
  obtain ⟨l, e, h1, h2⟩ := gd_list (f := Val.e) (p := Val.ok) (ks := [.int .i64, .int .i64, .str]) (b := 32) (by kernel_rfl) (by kernel_rfl) (by decide) (fun e he => by
    obtain ⟨hl, hg⟩ := gds_cells he
    match e, hl, hg with
    | [a, b, c], _, hg =>
      obtain ⟨v, rfl, rfl, rfl, hv⟩ := val_cells (hg 0 (by decide)) (hg 1 (by decide)) (hg 2 (by decide))
      exact ⟨v, rfl, hv⟩) h
  exact ⟨l, e, h1, h2⟩

end Go.Proofs.YthmljoalohpafaaGreatDoor

set_option linter.unusedVariables false
set_option linter.unusedSimpArgs false
namespace Go.Proofs.YthmljoalohpafaaGreatDoor
open Go Go.Pu

theorem cmp_Compare_int_res (a b : Int) : (m_cmp_Compare_int [.i a, .i b]).res = some (0, [.i (Cmp.cmpI a b)]) := by
  simp only [m_cmp_Compare_int, Cmp.cmpI, res_test, res_stop, bne_self_eq_false, Bool.false_eq_true, if_false, decide_eq_true_eq]
  split
  · rfl
  · split <;> rfl

theorem value_May_res (v : Val) : (m_value_May [.i v.k, .i v.n, .s (bs v.s)]).res = some (0, [.b (mayV v)]) := by
  simp only [m_value_May, mayV, res_test, res_stop, bs_toList, bs_size]
  by_cases h0 : v.k = 0
  · simp [h0]
  · by_cases h1 : v.k = 1
    · by_cases h2 : v.n = 0
      · simp [h1, h2]
      · by_cases h3 : v.n = 1 <;> simp [h1, h2, h3]
    · by_cases h2 : v.k = 2
      · simp [h2]
      · by_cases h3 : v.k = 3
        · have h5 : ((v.s.length : Int) ≤ 1000) ↔ v.s.length ≤ 1000 := by omega
          by_cases h4 : v.n = 0
          · simp [h3, h4, h5]
          · simp [h3, h4]
        · simp [h0, h1, h2, h3]

theorem R01_May_res (v : Val) : (m_R01_May [.i v.k, .i v.n, .s (bs v.s)]).res = some (0, [.b (mayV v)]) := by
  simp only [m_R01_May, mayV, res_test, res_stop, bs_toList, bs_size]
  by_cases h0 : v.k = 0
  · by_cases hs : v.s = []
    · by_cases h4 : v.n = 0
      · simp [h0, hs, h4]
      · by_cases h5 : 0 ≤ v.n
        · have : ¬ v.n ≤ 0 := by omega
          simp [h0, hs, h4, h5, this]
        · simp [h0, hs, h4, h5]
    · simp [h0, hs]
  · by_cases h1 : v.k = 1
    · by_cases hs : v.s = []
      · by_cases h5 : 0 ≤ v.n
        · by_cases h6 : v.n ≤ 1
          · have : v.n = 0 ∨ v.n = 1 := by omega
            rcases this with h | h <;> simp [h1, hs, h]
          · have h7 : ¬ v.n = 0 := by omega
            have h8 : ¬ v.n = 1 := by omega
            simp [h1, hs, h5, h6, h7, h8]
        · have h7 : ¬ v.n = 0 := by omega
          have h8 : ¬ v.n = 1 := by omega
          simp [h1, hs, h5, h7, h8]
      · simp [h1, hs]
    · by_cases h2 : v.k = 2
      · simp [h2]
      · by_cases h3 : v.k = 3
        · have h5 : ((v.s.length : Int) ≤ 1000) ↔ v.s.length ≤ 1000 := by omega
          by_cases h4 : v.n = 0
          · simp [h3, h4, h5]
          · simp [h3, h4]
        · simp [h0, h1, h2, h3]

theorem value_Compare_res (v w : Val) : (m_value_Compare [.i v.k, .i v.n, .s (bs v.s), .i w.k, .i w.n, .s (bs w.s)]).res = some (0, [.i (cmpV v w)]) := by
  have hl : ∀ x y z : Int, lres rd_value_Compare_123_3 [.i 0, .l [[pI x], [pI y], [pI z]], .i 3, .i 0] = if Cmp.thn x (Cmp.thn y z) = 0 then some (1, [.i 0]) else some (0, [.i (Cmp.thn x (Cmp.thn y z))]) := by
    intro x y z
    have s1 : ∀ i : Int, i = 0 ∨ i = 1 ∨ i = 2 → (rd_value_Compare_123_3 [.i 0, .l [[pI x], [pI y], [pI z]], .i 3, .i i]).val =
        if cI (el [[pI x], [pI y], [pI z]] i) 0 = 0 then some (.next [.i 0, .l [[pI x], [pI y], [pI z]], .i 3, .i (i + 1)]) else some (.stop 0 [.i (cI (el [[pI x], [pI y], [pI z]] i) 0)]) := by
      intro i hi
      have h1 : i < 3 := by omega
      have h2 : inR i (ln [[pI x], [pI y], [pI z]]) = true := by rw [inR_iff]; simp [ln]; omega
      have h3 : w64 (i + 1) = i + 1 := w64_eq (by omega) (by omega)
      simp only [rd_value_Compare_123_3, rt_test, rt_stop, rt_next, h1, h2, h3, decide_true, if_true]
      by_cases h : cI (el [[pI x], [pI y], [pI z]] i) 0 = 0 <;> simp [h]
    have s3 : (rd_value_Compare_123_3 [.i 0, .l [[pI x], [pI y], [pI z]], .i 3, .i 3]).val = some (.stop 1 [.i 0]) := by simp [rd_value_Compare_123_3]
    have e0 : cI (el [[pI x], [pI y], [pI z]] 0) 0 = x := rfl
    have e1 : cI (el [[pI x], [pI y], [pI z]] 1) 0 = y := rfl
    have e2 : cI (el [[pI x], [pI y], [pI z]] 2) 0 = z := rfl
    have t0 := s1 0 (by omega)
    have t1 := s1 1 (by omega)
    have t2 := s1 2 (by omega)
    rw [e0] at t0; rw [e1] at t1; rw [e2] at t2
    unfold Cmp.thn
    by_cases hx : x = 0
    · rw [if_pos hx] at t0
      rw [lres_next t0]
      by_cases hy : y = 0
      · rw [if_pos hy] at t1
        rw [show (0 : Int) + 1 = 1 from rfl, lres_next t1]
        by_cases hz : z = 0
        · rw [if_pos hz] at t2
          rw [show (1 : Int) + 1 = 2 from rfl, lres_next t2, show (2 : Int) + 1 = 3 from rfl, lres_stop s3]
          simp [hx, hy, hz]
        · rw [if_neg hz] at t2
          rw [show (1 : Int) + 1 = 2 from rfl, lres_stop t2]
          simp [hx, hy, hz]
      · rw [if_neg hy] at t1
        rw [show (0 : Int) + 1 = 1 from rfl, lres_stop t1]
        simp [hx, hy]
    · rw [if_neg hx] at t0
      rw [lres_stop t0]
      simp [hx]
  simp only [m_value_Compare, cmp_Compare_int_res, hl, res_test, ok_some', out_some, uI_0, bs_data, beq_self_eq_true, if_true, cmpV]
  split <;> rename_i h <;> simp [h]

end Go.Proofs.YthmljoalohpafaaGreatDoor

set_option linter.unusedVariables false
set_option linter.unusedSimpArgs false
namespace Go.Proofs.YthmljoalohpafaaGreatDoor
open Go Go.Pu

/-- equal, field by field -/
theorem eqV_c (v : Val) (a b : Int) (c : List UInt8) : (v.k == a && (v.n == b && (v.s == c && true))) = decide (v = ⟨a, b, c⟩) := by
  obtain ⟨d, e, f⟩ := v
  rw [Bool.eq_iff_iff]; simp
theorem eqV_c' (v : Val) (a b : Int) (c : List UInt8) : (a == v.k && (b == v.n && (c == v.s && true))) = decide (⟨a, b, c⟩ = v) := by
  obtain ⟨d, e, f⟩ := v
  rw [Bool.eq_iff_iff]; simp
theorem eta (v : Val) : (⟨v.k, v.n, v.s⟩ : Val) = v := rfl

def tru (b : Bool) : Val := ⟨1, if b then 1 else 0, []⟩
def nul : Val := ⟨0, 0, []⟩
def intV (n : Int) : Val := ⟨2, n, []⟩
def Val.u (v : Val) : List U := [.i v.k, .i v.n, .s (bs v.s)]

theorem Truth_res (b : Bool) : (m_value_Truth [.b b]).res = some (0, (tru b).u) := by
  cases b <;> simp [m_value_Truth, tru, Val.u, bs]

theorem RTruth_res (b : Bool) : (m_R01_Truth [.b b]).res = some (0, (tru b).u) := by
  cases b <;> simp [m_R01_Truth, tru, Val.u, bs]

def notV (v : Val) : Val := if v = tru true then tru false else if v = tru false then tru true else nul

theorem Not_res (v : Val) : (m_value_Not v.u).res = some (0, (notV v).u) := by
  obtain ⟨k, n, s⟩ := v
  simp only [m_value_Not, notV, tru, Val.u, Val.mk.injEq, res_test, res_stop, bs_toList]
  by_cases h1 : k = 1 <;> by_cases h2 : n = 1 <;> by_cases h3 : n = 0 <;> by_cases h4 : s = [] <;> simp [h1, h2, h3, h4, nul, bs] <;> omega

theorem RNot_res (v : Val) : (m_R01_Not v.u).res = some (0, (notV v).u) := by
  obtain ⟨k, n, s⟩ := v
  simp only [m_R01_Not, notV, tru, Val.u, Val.mk.injEq, res_test, res_stop, bs_toList]
  by_cases h1 : k = 1 <;> by_cases h2 : n = 1 <;> by_cases h3 : n = 0 <;> by_cases h4 : s = [] <;> simp [h1, h2, h3, h4, nul, bs] <;> omega

theorem Index_res (l : List Val) (hl : l.length ≤ 4398046511104) (v : Val) : ∃ n : Int, (m_slices_Index_ [.l (re l), .i v.k, .i v.n, .s (bs v.s)]).res = some (0, [.i n]) ∧ (0 ≤ n ↔ v ∈ l) := by
  have h := loop_all l (rd := rd_slices_Index__152_2) (fun i => [.l (re l), .i l.length, .i (i : Nat), .i v.k, .i v.n, .s (bs v.s)]) (fun x => !decide (v = x)) 0 1 (fun i => [.i (i : Nat)]) []
    (by simp [rd_slices_Index__152_2, re]) (by
    intro i h
    simp only [rd_slices_Index__152_2, re, el_map _ _ h, rt_test, rt_stop, rt_next, ln_map, Val.e, cI_p, cI_s, cS_s, cS_p, bs_toList, inR_cast, eqV_c, eta, w64_succ (i := i) (by omega), Int.ofNat_lt, h, decide_true, if_true]
    by_cases e : v = l[i] <;> simp [e])
  simp only [Int.natCast_zero, re] at h
  simp only [m_slices_Index_, re, ln_map]
  rcases h with ⟨h1, h2⟩ | ⟨h1, i, hi, hp, _, h2⟩
  · refine ⟨-1, by simp [h2], ?_⟩
    have : ¬ v ∈ l := fun hm => by simpa using List.all_eq_true.1 h1 v hm
    simp [this]
  · refine ⟨i, by simp [h2], ?_⟩
    have : v = l[i] := by simpa using hp
    have hm : v ∈ l := by rw [this]; exact List.getElem_mem hi
    simp [hm]

theorem Contains_res (l : List Val) (hl : l.length ≤ 4398046511104) (v : Val) : (m_slices_Contains_ [.l (re l), .i v.k, .i v.n, .s (bs v.s)]).res = some (0, [.b (decide (v ∈ l))]) := by
  obtain ⟨n, h1, h2⟩ := Index_res l hl v
  simp only [m_slices_Contains_, h1, ok_some', out_some, uI_0, res_test, res_stop, beq_self_eq_true, if_true, ge_iff_le, h2]

/-- And (strong = false), Or (strong = true) -/
def foldV (strong : Bool) (l : List Val) : Val := if tru strong ∈ l then tru strong else if ∀ x ∈ l, x = tru (!strong) then tru (!strong) else nul

theorem fold_res (b : Bool) (l : List Val) (hl : l.length ≤ 4398046511104) : (m_value_fold [.b b, .l (re l)]).res = some (0, (foldV b l).u) := by
  have hT := Truth_res b
  have hT2 := Truth_res (!b)
  have hC := Contains_res l hl (tru b)
  have h := loop_all l (rd := rd_value_fold_153_2) (fun i => [.l (re l), .i l.length, .i (i : Nat), .i (tru (!b)).k, .i (tru (!b)).n, .s (bs (tru (!b)).s)]) (fun x => decide (x = tru (!b))) 0 1
    (fun i => [.i (i : Nat), .i (tru (!b)).k, .i (tru (!b)).n, .s (bs (tru (!b)).s)]) [.i (tru (!b)).k, .i (tru (!b)).n, .s (bs (tru (!b)).s)]
    (by simp [rd_value_fold_153_2, re]) (by
    intro i h
    simp only [rd_value_fold_153_2, re, el_map _ _ h, rt_test, rt_stop, rt_next, ln_map, Val.e, cI_p, cI_s, cS_s, cS_p, bs_toList, inR_cast, eqV_c, eta, w64_succ (i := i) (by omega), Int.ofNat_lt, h, decide_true, if_true]
    by_cases e : l[i] = tru (!b) <;> simp [e])
  simp only [Int.natCast_zero, re] at h
  simp only [re] at hC
  simp only [m_value_fold, re, ln_map, hT, hT2, Val.u, ok_some', out_some, uI_0, uI_s, uS_s, uS_0, uB_0, hC, res_test, res_stop, beq_self_eq_true, if_true, foldV]
  by_cases e : tru b ∈ l
  · simp [e]
  · simp only [e, decide_false, Bool.false_eq_true, if_false]
    rcases h with ⟨h1, h2⟩ | ⟨h1, i, hi, hp, _, h2⟩
    · have : ∀ x ∈ l, x = tru (!b) := fun x hx => by simpa using List.all_eq_true.1 h1 x hx
      rw [if_pos this]; simp [h2]
    · have : ¬ ∀ x ∈ l, x = tru (!b) := fun hh => by simp [hh _ (List.getElem_mem hi)] at hp
      rw [if_neg this]; simp [h2, nul, bs_nil]

theorem And_res (l : List Val) (hl : l.length ≤ 4398046511104) : (m_value_And [.l (re l)]).res = some (0, (foldV false l).u) := by
  simp [m_value_And, fold_res false l hl, Val.u]
theorem Or_res (l : List Val) (hl : l.length ≤ 4398046511104) : (m_value_Or [.l (re l)]).res = some (0, (foldV true l).u) := by
  simp [m_value_Or, fold_res true l hl, Val.u]

end Go.Proofs.YthmljoalohpafaaGreatDoor

set_option linter.unusedVariables false
set_option linter.unusedSimpArgs false
namespace Go.Proofs.YthmljoalohpafaaGreatDoor
open Go Go.Pu

def in64 (n : Int) : Bool := decide (-9223372036854775808 ≤ n ∧ n < 9223372036854775808)

/-- what is done to two numbers: null, too large, or a number -/
def arith (f : Int → Int → Int) (v w : Val) : Val × Bool :=
  if v.k = 0 ∨ w.k = 0 then (nul, true) else if v.k ≠ 2 ∨ w.k ≠ 2 then (nul, false) else if in64 (f v.n w.n) then (intV (f v.n w.n), true) else (nul, false)
def addV : Val → Val → Val × Bool := arith (· + ·)
def subV : Val → Val → Val × Bool := arith (· - ·)
def mulV : Val → Val → Val × Bool := arith (· * ·)
def ru (r : Val × Bool) : List U := [.i r.1.k, .i r.1.n, .s (bs r.1.s), .b r.2]

theorem w64_def (n : Int) : w64 n = (n + 9223372036854775808) % 18446744073709551616 - 9223372036854775808 := by
  unfold w64; rw [IntKind.wrap_i64]
theorem w64_in {n : Int} (h : in64 n = true) : w64 n = n := by
  have := of_decide_eq_true h
  exact w64_eq this.1 this.2

theorem add_ok (a b : Int) (ha : i64 a) (hb : i64 b) : ((decide (w64 (a + b) > a) == decide (b > 0)) || decide (b = 0)) = in64 (a + b) := by
  unfold i64 at ha hb
  rw [Bool.eq_iff_iff]
  simp only [Bool.or_eq_true, beq_iff_eq, decide_eq_decide, decide_eq_true_eq, in64, w64_def]
  omega
theorem sub_ok (a b : Int) (ha : i64 a) (hb : i64 b) : ((decide (w64 (a - b) < a) == decide (b > 0)) || decide (b = 0)) = in64 (a - b) := by
  unfold i64 at ha hb
  rw [Bool.eq_iff_iff]
  simp only [Bool.or_eq_true, beq_iff_eq, decide_eq_decide, decide_eq_true_eq, in64, w64_def]
  omega

theorem Add_res (v w : Val) (hv : v.ok) (hw : w.ok) : (m_value_Add [.i v.k, .i v.n, .s (bs v.s), .i w.k, .i w.n, .s (bs w.s)]).res = some (0, ru (addV v w)) := by
  have h := add_ok v.n w.n hv.2.1 hw.2.1
  simp only [m_value_Add, addV, arith, res_test, res_stop]
  by_cases h1 : v.k = 0
  · simp [h1, ru, nul, bs_nil]
  by_cases h2 : w.k = 0
  · simp [h1, h2, ru, nul, bs_nil]
  by_cases h3 : v.k = 2
  · by_cases h4 : w.k = 2
    · by_cases h6 : w.n = 0
      · have h5 : in64 (v.n + w.n) = true := by rw [← h]; simp [h6]
        have e := w64_in h5
        simp [h3, h4, h5, h6, e, ru, intV, bs_nil]
        simp [h6] at e h5
        simp [h5, e]
      · by_cases h5 : in64 (v.n + w.n) = true
        · have e := w64_in h5
          simp only [h6, decide_false, Bool.or_false, h5, e] at h
          simp [h3, h4, h5, e, ru, intV, bs_nil] at h ⊢
          simp [h]
        · have h5 : in64 (v.n + w.n) = false := by simpa using h5
          simp only [h6, decide_false, Bool.or_false, h5] at h
          simp only [h3, h4, h5, ru, nul, bs_nil, h]
          simp [h6]
    · simp [h1, h2, h3, h4, ru, nul, bs_nil]
  · simp [h1, h2, h3, ru, nul, bs_nil]

theorem Sub_res (v w : Val) (hv : v.ok) (hw : w.ok) : (m_value_Sub [.i v.k, .i v.n, .s (bs v.s), .i w.k, .i w.n, .s (bs w.s)]).res = some (0, ru (subV v w)) := by
  have h := sub_ok v.n w.n hv.2.1 hw.2.1
  simp only [m_value_Sub, subV, arith, res_test, res_stop]
  by_cases h1 : v.k = 0
  · simp [h1, ru, nul, bs_nil]
  by_cases h2 : w.k = 0
  · simp [h1, h2, ru, nul, bs_nil]
  by_cases h3 : v.k = 2
  · by_cases h4 : w.k = 2
    · by_cases h6 : w.n = 0
      · have h5 : in64 (v.n - w.n) = true := by rw [← h]; simp [h6]
        have e := w64_in h5
        simp [h3, h4, h5, h6, e, ru, intV, bs_nil]
        simp [h6] at e h5
        simp [h5, e]
      · by_cases h5 : in64 (v.n - w.n) = true
        · have e := w64_in h5
          simp only [h6, decide_false, Bool.or_false, h5, e] at h
          simp [h3, h4, h5, e, ru, intV, bs_nil] at h ⊢
          simp [h]
        · have h5 : in64 (v.n - w.n) = false := by simpa using h5
          simp only [h6, decide_false, Bool.or_false, h5] at h
          simp only [h3, h4, h5, ru, nul, bs_nil, h]
          simp [h6]
    · simp [h1, h2, h3, h4, ru, nul, bs_nil]
  · simp [h1, h2, h3, ru, nul, bs_nil]

theorem amount_res (n : Int) (hn : i64 n) : (m_value_amount [.i n]).res = some (0, [.i n.natAbs]) := by
  unfold i64 at hn
  simp only [m_value_amount, res_test, res_stop, decide_eq_true_eq, IntKind.wrap_u64]
  split
  · congr 4; omega
  · congr 4; omega

theorem mul_natAbs (a b : Int) : ((a.natAbs : Int) * (b.natAbs : Int)) = if (decide (a < 0) == decide (b < 0)) then a * b else -(a * b) := by
  by_cases ha : a < 0 <;> by_cases hb : b < 0
  · rw [Int.ofNat_natAbs_of_nonpos (by omega), Int.ofNat_natAbs_of_nonpos (by omega), Int.neg_mul_neg]; simp [ha, hb]
  · rw [Int.ofNat_natAbs_of_nonpos (by omega), Int.natAbs_of_nonneg (by omega), Int.neg_mul]; simp [ha, hb]
  · rw [Int.natAbs_of_nonneg (by omega), Int.ofNat_natAbs_of_nonpos (by omega), Int.mul_neg]; simp [ha, hb]
  · rw [Int.natAbs_of_nonneg (by omega), Int.natAbs_of_nonneg (by omega)]; simp [ha, hb]

/-- the test that Mul makes -/
theorem mul_ok (a b : Int) (p : Int) (hp0 : 0 ≤ p) (hp : p = if (decide (a < 0) == decide (b < 0)) then a * b else -(a * b)) :
    ((p / 18446744073709551616 == 0) && (decide (p % 18446744073709551616 < 9223372036854775808) || (p % 18446744073709551616 == 9223372036854775808 && !(decide (a < 0) == decide (b < 0))))) = in64 (a * b) := by
  generalize (decide (a < 0) == decide (b < 0)) = q at *
  generalize a * b = m at *
  rw [Bool.eq_iff_iff]
  simp only [Bool.and_eq_true, Bool.or_eq_true, beq_iff_eq, decide_eq_true_eq, in64, Bool.not_eq_true']
  cases q
  · simp only [Bool.false_eq_true, if_false] at hp
    simp; omega
  · simp only [if_true] at hp
    simp; omega

theorem Mul_res (v w : Val) (hv : v.ok) (hw : w.ok) : (m_value_Mul [.i v.k, .i v.n, .s (bs v.s), .i w.k, .i w.n, .s (bs w.s)]).res = some (0, ru (mulV v w)) := by
  have a1 := amount_res v.n hv.2.1
  have a2 := amount_res w.n hw.2.1
  have h0 := mul_natAbs v.n w.n
  have hm := mul_ok v.n w.n _ (Int.mul_nonneg (Int.natCast_nonneg _) (Int.natCast_nonneg _)) h0
  have u1 : inU64 (v.n.natAbs : Int) = true := by
    have := hv.2.1; unfold i64 at this
    unfold inU64; simp only [decide_eq_true_eq]; omega
  have u2 : inU64 (w.n.natAbs : Int) = true := by
    have := hw.2.1; unfold i64 at this
    unfold inU64; simp only [decide_eq_true_eq]; omega
  simp only [m_value_Mul, mulV, arith, res_test, res_stop, a1, a2, ok_some', out_some, uI_0, beq_self_eq_true, if_true, u1, u2, Bool.and_self, mulHi, mulLo]
  by_cases h1 : v.k = 0
  · simp [h1, ru, nul, bs_nil]
  by_cases h2 : w.k = 0
  · simp [h1, h2, ru, nul, bs_nil]
  by_cases h3 : v.k = 2
  · by_cases h4 : w.k = 2
    · generalize (decide (v.n < 0) == decide (w.n < 0)) = q at hm ⊢
      generalize ((v.n.natAbs : Int) * (w.n.natAbs : Int)) = p at hm ⊢
      have key : ∀ (A B C : Bool) (x y : Rs), (if A = true then if B = true then x else if C = true then (if (!!q) = true then y else x) else y else y) = if (A && (B || (C && !q))) = true then x else y := by
        intro A B C x y
        cases A <;> cases B <;> cases C <;> cases q <;> rfl
      simp only [h3, h4]
      simp only [bne_self_eq_false, Bool.false_eq_true, if_false, show ((2 : Int) == 0) = false from rfl, show ¬ (2 : Int) = 0 by decide, or_self, ne_eq, not_true_eq_false]
      rw [key, hm]
      by_cases h5 : in64 (v.n * w.n) = true
      · simp [h5, w64_in h5, ru, intV, bs_nil]
      · simp [h5, ru, nul, bs_nil]
    · simp [h1, h2, h3, h4, ru, nul, bs_nil]
  · simp [h1, h2, h3, ru, nul, bs_nil]

end Go.Proofs.YthmljoalohpafaaGreatDoor

set_option linter.unusedVariables false
set_option linter.unusedSimpArgs false
namespace Go.Proofs.YthmljoalohpafaaGreatDoor
open Go Go.Pu

structure Nd where
  op : Int
  n : Int
  v : Val
def Nd.e (d : Nd) : List PV := [pI d.op, pI d.n, pI d.v.k, pI d.v.n, pS (bs d.v.s)]
def Nd.ok (d : Nd) : Prop := i64 d.op ∧ i64 d.n ∧ d.v.ok

/-- how many values a step takes -/
def tk (op : Int) : Int := if op = 0 ∨ op = 1 then 0 else if op = 9 ∨ op = 10 then 1 else if 2 ≤ op ∧ op ≤ 8 then 2 else -1
def kOk (k a : Int) : Bool := decide (a = k ∨ a = 0)
/-- the kind that a step leaves, and whether it takes such kinds -/
def lv (op a b : Int) : Int × Bool :=
  if op = 2 ∨ op = 3 ∨ op = 4 then (2, kOk 2 a && kOk 2 b) else if op = 5 ∨ op = 6 then (1, decide (a = b ∨ a = 0 ∨ b = 0)) else if op = 7 ∨ op = 8 then (1, kOk 1 a && kOk 1 b)
  else if op = 9 then (1, kOk 1 b) else (1, true)
def cmpE (op : Int) (a b : Val) : Val := if a.k = 0 ∨ b.k = 0 then nul else tru (if op = 5 then decide (cmpV a b = 0) else decide (cmpV a b < 0))
def do2 (op : Int) (a b : Val) : Val × Bool :=
  if op = 2 then addV a b else if op = 3 then subV a b else if op = 4 then mulV a b else
    (if op = 7 then foldV false [a, b] else if op = 8 then foldV true [a, b] else if op = 9 then notV b else if op = 10 then tru (decide (b.k = 0)) else cmpE op a b, true)

/-- what is left, the last one first; else what is wrong -/
def appV (op : Int) (a b : Val) (s : List Val) : Except Int (List Val) :=
  if (lv op a.k b.k).2 = true then (if (do2 op a b).2 = true then .ok ((do2 op a b).1 :: s) else .error 31) else .error 30
def stepV (row : List Val) (s : List Val) (d : Nd) : Except Int (List Val) :=
  if d.op = 0 then (if 0 ≤ d.n ∧ d.n < row.length then .ok (row.getD d.n.toNat nul :: s) else .error 30)
  else if d.op = 1 then (if mayV d.v = true then .ok (d.v :: s) else .error 30)
  else if tk d.op = 1 then (match s with | [] => .error 30 | b :: s => appV d.op nul b s)
  else if tk d.op = 2 then (match s with | b :: a :: s => appV d.op a b s | _ => .error 30)
  else .error 30
def runV (row : List Val) : List Nd → List Val → Except Int (List Val)
  | [], s => .ok s
  | d :: e, s => match stepV row s d with | .error f => .error f | .ok s => runV row e s
def lastV : Except Int (List Val) → Val × Int
  | .error f => (nul, f)
  | .ok [x] => (x, 0)
  | .ok _ => (nul, 30)
def evalV (e : List Nd) (row : List Val) : Val × Int := if e.length > 100 then (nul, 1) else lastV (runV row e [])
def trueV (e : List Nd) (row : List Val) : Bool × Int := if e.length = 0 then (true, 0) else (decide ((evalV e row).2 = 0 ∧ (evalV e row).1 = tru true), (evalV e row).2)

def appT (op a b : Int) (s : List Int) : Option (List Int) := if (lv op a b).2 = true then some ((lv op a b).1 :: s) else none
def stepT (cols : List Int) (s : List Int) (d : Nd) : Option (List Int) :=
  if d.op = 0 then (if 0 ≤ d.n ∧ d.n < cols.length ∧ 1 ≤ cols.getD d.n.toNat 0 ∧ cols.getD d.n.toNat 0 ≤ 3 then some (cols.getD d.n.toNat 0 :: s) else none)
  else if d.op = 1 then (if mayV d.v = true then some (d.v.k :: s) else none)
  else if tk d.op = 1 then (match s with | [] => none | b :: s => appT d.op 0 b s)
  else if tk d.op = 2 then (match s with | b :: a :: s => appT d.op a b s | _ => none)
  else none
def runT (cols : List Int) : List Nd → List Int → Option (List Int)
  | [], s => some s
  | d :: e, s => match stepT cols s d with | none => none | some s => runT cols e s
def typeV (e : List Nd) (cols : List Int) : Int × Int := if e.length > 100 then (0, 1) else match runT cols e [] with | some [k] => (k, 0) | _ => (0, 30)

/-! what has a kind -/

def fitV (v : Val) (k : Int) : Prop := v.k = 0 ∨ v.k = k
def fitS : List Val → List Int → Prop
  | [], [] => True
  | v :: s, k :: t => fitV v k ∧ fitS s t
  | _, _ => False
def fitRow (row : List Val) (cols : List Int) : Prop := row.length = cols.length ∧ ∀ i, i < row.length → fitV (row.getD i nul) (cols.getD i 0)

theorem kOk_fit {k a b : Int} (h : kOk k b = true) (hf : a = 0 ∨ a = b) : kOk k a = true := by
  unfold kOk at *
  rw [decide_eq_true_eq] at *
  omega
theorem lv_fit {op a b x y : Int} (h : (lv op x y).2 = true) (ha : a = 0 ∨ a = x) (hb : b = 0 ∨ b = y) : (lv op a b).2 = true := by
  unfold lv at *
  split
  · rename_i h1
    rw [if_pos h1] at h
    simp only [Bool.and_eq_true] at h ⊢
    exact ⟨kOk_fit h.1 ha, kOk_fit h.2 hb⟩
  · rename_i h1
    rw [if_neg h1] at h
    split
    · rename_i h2
      rw [if_pos h2] at h
      simp only [decide_eq_true_eq] at h ⊢
      omega
    · rename_i h2
      rw [if_neg h2] at h
      split
      · rename_i h3
        rw [if_pos h3] at h
        simp only [Bool.and_eq_true] at h ⊢
        exact ⟨kOk_fit h.1 ha, kOk_fit h.2 hb⟩
      · rename_i h3
        rw [if_neg h3] at h
        split
        · rename_i h4
          rw [if_pos h4] at h
          exact kOk_fit h hb
        · rfl

theorem tru_k (b : Bool) : (tru b).k = 1 := rfl
theorem foldV_k (b : Bool) (l : List Val) : (foldV b l).k = 0 ∨ (foldV b l).k = 1 := by
  unfold foldV; (repeat' split) <;> first | exact .inr rfl | exact .inl rfl
theorem notV_k (v : Val) : (notV v).k = 0 ∨ (notV v).k = 1 := by
  unfold notV; (repeat' split) <;> first | exact .inr rfl | exact .inl rfl
theorem cmpE_k (op : Int) (a b : Val) : (cmpE op a b).k = 0 ∨ (cmpE op a b).k = 1 := by
  unfold cmpE; split <;> first | exact .inr rfl | exact .inl rfl
theorem arith_k (f : Int → Int → Int) (a b : Val) : (arith f a b).1.k = 0 ∨ (arith f a b).1.k = 2 := by
  unfold arith; (repeat' split) <;> first | exact .inr rfl | exact .inl rfl
theorem do2_k (op : Int) (a b : Val) (x y : Int) (h : tk op = 1 ∨ tk op = 2) : fitV (do2 op a b).1 (lv op x y).1 := by
  unfold fitV do2 lv
  by_cases e2 : op = 2
  · subst e2; exact arith_k _ _ _
  by_cases e3 : op = 3
  · subst e3; exact arith_k _ _ _
  by_cases e4 : op = 4
  · subst e4; exact arith_k _ _ _
  have g1 : ¬ (op = 2 ∨ op = 3 ∨ op = 4) := by omega
  have hl : (if op = 2 ∨ op = 3 ∨ op = 4 then ((2 : Int), kOk 2 x && kOk 2 y) else if op = 5 ∨ op = 6 then (1, decide (x = y ∨ x = 0 ∨ y = 0)) else if op = 7 ∨ op = 8 then (1, kOk 1 x && kOk 1 y) else if op = 9 then (1, kOk 1 y) else (1, true)).1 = 1 := by
    rw [if_neg g1]; (repeat' split) <;> rfl
  rw [hl, if_neg e2, if_neg e3, if_neg e4]
  simp only
  (repeat' split)
  · exact foldV_k _ _
  · exact foldV_k _ _
  · exact notV_k _
  · exact .inr rfl
  · exact cmpE_k _ _ _

theorem app_fit {op : Int} {a b : Val} {x y : Int} {s : List Val} {t t' : List Int} (ht : tk op = 1 ∨ tk op = 2) (ha : fitV a x) (hb : fitV b y) (hs : fitS s t) (h : appT op x y t = some t') :
    (∃ s', appV op a b s = .ok s' ∧ fitS s' t') ∨ appV op a b s = .error 31 := by
  unfold appT at h
  split at h
  · rename_i h1
    injection h with h
    subst h
    unfold appV
    rw [if_pos (lv_fit h1 ha hb)]
    split
    · exact .inl ⟨_, rfl, do2_k op a b x y ht, hs⟩
    · exact .inr rfl
  · cases h

theorem step_fit {row : List Val} {cols : List Int} (hr : fitRow row cols) {s : List Val} {t t' : List Int} {d : Nd} (hs : fitS s t) (h : stepT cols t d = some t') :
    (∃ s', stepV row s d = .ok s' ∧ fitS s' t') ∨ stepV row s d = .error 31 := by
  unfold stepT at h
  unfold stepV
  by_cases e0 : d.op = 0
  · rw [if_pos e0] at h ⊢
    split at h
    · rename_i hc
      injection h with h
      subst h
      have hn : 0 ≤ d.n ∧ d.n < row.length := by rw [hr.1]; omega
      rw [if_pos hn]
      exact .inl ⟨_, rfl, hr.2 _ (by omega), hs⟩
    · cases h
  rw [if_neg e0] at h ⊢
  by_cases e1 : d.op = 1
  · rw [if_pos e1] at h ⊢
    split at h
    · rename_i hc
      injection h with h
      subst h
      rw [if_pos hc]
      exact .inl ⟨_, rfl, .inr rfl, hs⟩
    · cases h
  rw [if_neg e1] at h ⊢
  by_cases k1 : tk d.op = 1
  · rw [if_pos k1] at h ⊢
    match s, t, hs, h with
    | [], [], hs, h => cases h
    | b :: s, y :: t, hs, h => exact app_fit (.inl k1) (.inl rfl) hs.1 hs.2 h
  rw [if_neg k1] at h ⊢
  by_cases k2 : tk d.op = 2
  · rw [if_pos k2] at h ⊢
    match s, t, hs, h with
    | [], [], hs, h => cases h
    | [_], [_], hs, h => cases h
    | b :: a :: s, y :: x :: t, hs, h => exact app_fit (.inr k2) hs.2.1 hs.1 hs.2.2 h
  · rw [if_neg k2] at h; cases h

theorem run_fit {row : List Val} {cols : List Int} (hr : fitRow row cols) : ∀ (e : List Nd) {s : List Val} {t t' : List Int}, fitS s t → runT cols e t = some t' →
    (∃ s', runV row e s = .ok s' ∧ fitS s' t') ∨ runV row e s = .error 31
  | [], s, t, t', hs, h => by
    injection h with h
    subst h
    exact .inl ⟨s, rfl, hs⟩
  | d :: e, s, t, t', hs, h => by
    unfold runT at h
    unfold runV
    cases h1 : stepT cols t d with
    | none => rw [h1] at h; cases h
    | some t1 =>
      rw [h1] at h
      rcases step_fit hr hs h1 with ⟨s1, h2, h3⟩ | h2
      · rw [h2]; exact run_fit hr e h3 h
      · rw [h2]; exact .inr rfl

theorem typed {e : List Nd} {row : List Val} {cols : List Int} (hr : fitRow row cols) (h : (typeV e cols).2 = 0) :
    ((evalV e row).2 = 0 ∧ fitV (evalV e row).1 (typeV e cols).1) ∨ ((evalV e row).2 = 31 ∧ (evalV e row).1 = nul) := by
  unfold typeV evalV at *
  by_cases hl : e.length > 100
  · rw [if_pos hl] at h; cases h
  rw [if_neg hl] at h
  rw [if_neg hl, if_neg hl]
  split at h
  · rename_i k hk
    rcases run_fit hr e (s := []) (t := []) trivial hk with ⟨s', h1, h2⟩ | h1
    · rw [h1]
      match s', h2 with
      | [x], h2 => exact .inl ⟨rfl, by simp only [hk]; exact h2.1⟩
    · rw [h1]; exact .inr ⟨rfl, rfl⟩
  · cases h
theorem type_bad {e : List Nd} {cols : List Int} (h : (typeV e cols).2 ≠ 0) : (typeV e cols).1 = 0 := by
  unfold typeV at *
  split
  · rfl
  · rename_i hl
    rw [if_neg hl] at h
    split
    · rename_i k hk; rw [hk] at h; exact absurd rfl h
    · rfl
theorem eval_bad {e : List Nd} {row : List Val} (h : (evalV e row).2 ≠ 0) : (evalV e row).1 = nul := by
  unfold evalV at *
  split
  · rfl
  · rename_i hl
    rw [if_neg hl] at h
    match hr : runV row e [] with
    | .error f => rfl
    | .ok [x] => rw [hr] at h; exact absurd rfl h
    | .ok [] => rfl
    | .ok (x :: y :: s) => rfl

/-! parts -/

theorem runV_app (row : List Val) : ∀ (a b : List Nd) (s : List Val), runV row (a ++ b) s = match runV row a s with | .error f => .error f | .ok s => runV row b s
  | [], b, s => rfl
  | d :: a, b, s => by
    rw [List.cons_append, runV, runV]
    cases stepV row s d with
    | error f => rfl
    | ok s1 => exact runV_app row a b s1

/-- what lies below is not looked at, where nothing is wrong with the step's kinds -/
theorem stepV_under (row s u : List Val) (d : Nd) : (∀ t, stepV row s d = .ok t → stepV row (s ++ u) d = .ok (t ++ u)) ∧ (stepV row s d = .error 31 → stepV row (s ++ u) d = .error 31) := by
  have happ : ∀ op a b (s : List Val), (∀ t, appV op a b s = .ok t → appV op a b (s ++ u) = .ok (t ++ u)) ∧ (appV op a b s = .error 31 → appV op a b (s ++ u) = .error 31) := by
    intro op a b s
    unfold appV
    split
    · split
      · exact ⟨fun t h => by injection h with h; subst h; rfl, fun h => by cases h⟩
      · exact ⟨fun t h => (by cases h), fun h => rfl⟩
    · exact ⟨fun t h => (by cases h), fun h => by injection h with h; exact absurd h (by decide)⟩
  have bad : (∀ t, (Except.error 30 : Except Int (List Val)) = .ok t → stepV row (s ++ u) d = .ok (t ++ u)) ∧ ((Except.error 30 : Except Int (List Val)) = .error 31 → stepV row (s ++ u) d = .error 31) :=
    ⟨fun t h => (by cases h), fun h => by injection h with h; exact absurd h (by decide)⟩
  unfold stepV at *
  by_cases e0 : d.op = 0
  · simp only [if_pos e0] at bad ⊢
    split
    · exact ⟨fun t h => by injection h with h; subst h; rfl, fun h => by cases h⟩
    · rename_i hc; rw [if_neg hc] at bad; exact bad
  simp only [if_neg e0] at bad ⊢
  by_cases e1 : d.op = 1
  · simp only [if_pos e1] at bad ⊢
    split
    · exact ⟨fun t h => by injection h with h; subst h; rfl, fun h => by cases h⟩
    · rename_i hc; rw [if_neg hc] at bad; exact bad
  simp only [if_neg e1] at bad ⊢
  by_cases k1 : tk d.op = 1
  · simp only [if_pos k1] at bad ⊢
    match s, bad with
    | [], bad => exact ⟨fun t h => (by cases h), fun h => by injection h with h; exact absurd h (by decide)⟩
    | b :: s, _ => exact happ _ _ _ _
  simp only [if_neg k1] at bad ⊢
  by_cases k2 : tk d.op = 2
  · simp only [if_pos k2] at bad ⊢
    match s with
    | [] => exact ⟨fun t h => (by cases h), fun h => by injection h with h; exact absurd h (by decide)⟩
    | [b] => exact ⟨fun t h => (by cases h), fun h => by injection h with h; exact absurd h (by decide)⟩
    | b :: a :: s => exact happ _ _ _ _
  · simp only [if_neg k2]
    exact ⟨fun t h => (by cases h), fun h => by injection h with h; exact absurd h (by decide)⟩

theorem runV_under (row u : List Val) : ∀ (e : List Nd) (s : List Val), (∀ t, runV row e s = .ok t → runV row e (s ++ u) = .ok (t ++ u)) ∧ (runV row e s = .error 31 → runV row e (s ++ u) = .error 31)
  | [], s => ⟨fun t h => by injection h with h; subst h; rfl, fun h => by cases h⟩
  | d :: e, s => by
    have h1 := stepV_under row s u d
    unfold runV
    cases hs : stepV row s d with
    | error f =>
      refine ⟨fun t h => (by cases h), fun h => ?_⟩
      injection h with h
      subst h
      rw [h1.2 hs]
    | ok s1 =>
      rw [h1.1 s1 hs]
      exact runV_under row u e s1

/-! many ones, added up -/

def oneN : Nd := ⟨1, 0, intV 1⟩
def addN : Nd := ⟨2, 0, nul⟩
theorem run_ones (row : List Val) : ∀ (n : Nat) (s : List Val), runV row (List.replicate n oneN) s = .ok (List.replicate n (intV 1) ++ s)
  | 0, s => rfl
  | n + 1, s => by
    have h : stepV row s oneN = .ok (intV 1 :: s) := rfl
    rw [List.replicate_succ, runV, h]
    refine (run_ones row n _).trans ?_
    rw [List.replicate_succ', List.append_assoc]; rfl
theorem step_add (row s : List Val) (a b : Int) (h : in64 (a + b) = true) : stepV row (intV b :: intV a :: s) addN = .ok (intV (a + b) :: s) := by
  have h1 : stepV row (intV b :: intV a :: s) addN = appV 2 (intV a) (intV b) s := rfl
  have h2 : do2 2 (intV a) (intV b) = (intV (a + b), true) := by
    show addV (intV a) (intV b) = _
    unfold addV arith
    rw [if_neg (by simp [intV]), if_neg (by simp [intV])]
    show (if in64 (a + b) = true then _ else _) = _
    rw [if_pos h]; rfl
  rw [h1]
  unfold appV
  rw [if_pos (by rfl), h2]; rfl
theorem run_adds (row : List Val) : ∀ (n : Nat) (m : Nat), n + m ≤ 1000 → runV row (List.replicate n addN) (intV (m : Nat) :: List.replicate n (intV 1)) = .ok [intV ((n + m : Nat) : Int)]
  | 0, m, h => by simp [runV]
  | n + 1, m, h => by
    rw [List.replicate_succ, List.replicate_succ, runV, step_add _ _ _ _ (decide_eq_true ⟨by omega, by omega⟩)]
    have := run_adds row n (m + 1) (by omega)
    have e : (1 : Int) + (m : Nat) = ((m + 1 : Nat) : Int) := by omega
    rw [e]
    refine this.trans ?_
    congr 3; omega
theorem run_deep (row : List Val) (n : Nat) (h : n + 1 ≤ 1000) : runV row (List.replicate (n + 1) oneN ++ List.replicate n addN) [] = .ok [intV ((n + 1 : Nat) : Int)] := by
  rw [runV_app, run_ones]
  simp only [List.append_nil]
  rw [List.replicate_succ]
  exact run_adds row n 1 h

theorem type_ones (cols : List Int) : ∀ (n : Nat) (s : List Int), runT cols (List.replicate n oneN) s = some (List.replicate n 2 ++ s)
  | 0, s => rfl
  | n + 1, s => by
    have h : stepT cols s oneN = some (2 :: s) := rfl
    rw [List.replicate_succ, runT, h]
    refine (type_ones cols n _).trans ?_
    rw [List.replicate_succ', List.append_assoc]; rfl
theorem runT_app (cols : List Int) : ∀ (a b : List Nd) (s : List Int), runT cols (a ++ b) s = match runT cols a s with | none => none | some s => runT cols b s
  | [], b, s => rfl
  | d :: a, b, s => by
    rw [List.cons_append, runT, runT]
    cases stepT cols s d with
    | none => rfl
    | some s1 => exact runT_app cols a b s1
theorem type_adds (cols : List Int) : ∀ (n : Nat), runT cols (List.replicate n addN) (2 :: List.replicate n 2) = some [2]
  | 0 => rfl
  | n + 1 => by
    rw [List.replicate_succ, List.replicate_succ, runT, show stepT cols (2 :: 2 :: List.replicate n 2) addN = some (2 :: List.replicate n 2) from rfl]
    exact type_adds cols n
theorem type_deep (cols : List Int) (n : Nat) : runT cols (List.replicate (n + 1) oneN ++ List.replicate n addN) [] = some [2] := by
  rw [runT_app, type_ones]
  simp only [List.append_nil]
  rw [List.replicate_succ]
  exact type_adds cols n

end Go.Proofs.YthmljoalohpafaaGreatDoor

set_option linter.unusedVariables false
set_option linter.unusedSimpArgs false
namespace Go.Proofs.YthmljoalohpafaaGreatDoor
open Go Go.Pu

theorem compareBytes_less : ∀ (a b : List UInt8), Lib.compareBytes a b = if Op.bytesLess a b = true then -1 else if a = b then 0 else 1
  | [], [] => by simp [Lib.compareBytes, Op.bytesLess]
  | [], _ :: _ => by simp [Lib.compareBytes, Op.bytesLess]
  | _ :: _, [] => by simp [Lib.compareBytes, Op.bytesLess]
  | a :: xs, b :: ys => by
    unfold Lib.compareBytes Op.bytesLess
    by_cases h1 : a < b
    · simp [h1]
    · by_cases h2 : b < a
      · have : a ≠ b := fun e => by subst e; exact absurd h2 (UInt8.lt_irrefl a)
        simp [h1, h2, this]
      · have : a = b := UInt8.le_antisymm (UInt8.not_lt.1 h2) (UInt8.not_lt.1 h1)
        subst this
        simp [h1, compareBytes_less xs ys]

theorem R01_Compare_res (v w : Val) : (m_R01_Compare [.i v.k, .i v.n, .s (bs v.s), .i w.k, .i w.n, .s (bs w.s)]).res = some (0, [.i (cmpV v w)]) := by
  simp only [m_R01_Compare, cmpV, Cmp.thn, Cmp.cmpI, res_test, res_stop, bs_toList, compareBytes_less]
  by_cases h1 : v.k = w.k
  · by_cases h2 : v.n = w.n
    · by_cases h3 : Op.bytesLess v.s w.s = true
      · simp [h1, h2, h3]
      · by_cases h4 : v.s = w.s
        · rw [h4] at h3 ⊢
          simp [h1, h2, h3]
        · simp [h1, h2, h3, h4]
    · by_cases h3 : v.n < w.n
      · simp [h1, h2, h3]
      · have h4 : w.n < v.n := by omega
        simp [h1, h2, h3, h4]
  · by_cases h3 : v.k < w.k
    · simp [h1, h3]
    · have h4 : w.k < v.k := by omega
      simp [h1, h3, h4]

/-! rows -/

end Go.Proofs.YthmljoalohpafaaGreatDoor

set_option linter.unusedVariables false
set_option linter.unusedSimpArgs false
namespace Go.Proofs.YthmljoalohpafaaGreatDoor
open Go Go.Pu

/-- how two lists compare, by the first place where they do not meet -/
theorem cmpR_at : ∀ (a b : List Val) (i : Nat) (hi : i ≤ a.length) (hj : i ≤ b.length), (∀ j (h : j < i), a[j] = b[j]) →
    cmpR a b = cmpR (a.drop i) (b.drop i)
  | a, b, 0, _, _, _ => by simp
  | [], b, i + 1, h, _, _ => by simp at h
  | _ :: _, [], i + 1, _, h, _ => by simp at h
  | x :: a, y :: b, i + 1, h1, h2, h => by
    have h0 : x = y := h 0 (by omega)
    subst h0
    have := cmpR_at a b i (by simpa using h1) (by simpa using h2) fun j hj => by simpa using h (j + 1) (by omega)
    simp only [cmpR, Cmp.lstC, cV.self, Cmp.thn] at this ⊢
    simpa using this

theorem cmpR_stop {a b : List Val} {i : Nat} (hi : i < a.length) (hj : i < b.length) (h : ∀ j (h : j < i), a[j] = b[j]) (hne : cmpV a[i] b[i] ≠ 0) : cmpR a b = cmpV a[i] b[i] := by
  rw [cmpR_at a b i (by omega) (by omega) h, List.drop_eq_getElem_cons hi, List.drop_eq_getElem_cons hj]
  simp only [cmpR, Cmp.lstC, Cmp.thn]
  rw [if_pos (by simpa using hne)]

theorem cmpR_end {a b : List Val} (h : ∀ j (h1 : j < a.length) (h2 : j < b.length), a[j] = b[j]) : cmpR a b = if a.length < b.length then -1 else if b.length < a.length then 1 else 0 := by
  by_cases hl : a.length ≤ b.length
  · rw [cmpR_at a b a.length (Nat.le_refl _) hl fun j hj => h j hj (by omega), List.drop_length]
    by_cases he : a.length < b.length
    · rw [if_pos he, List.drop_eq_getElem_cons he]; rfl
    · have : b.drop a.length = [] := List.drop_eq_nil_of_le (by omega)
      rw [if_neg he, if_neg (by omega), this]; rfl
  · rw [cmpR_at a b b.length (by omega) (Nat.le_refl _) fun j hj => h j (by omega) hj, List.drop_length, if_neg (by omega), if_pos (by omega), List.drop_eq_getElem_cons (by omega)]; rfl

end Go.Proofs.YthmljoalohpafaaGreatDoor

set_option linter.unusedVariables false
set_option linter.unusedSimpArgs false
namespace Go.Proofs.YthmljoalohpafaaGreatDoor
open Go Go.Pu

theorem wrap_u64 {n : Int} (h1 : 0 ≤ n) (h2 : n < 18446744073709551616) : IntKind.u64.wrap n = n := by
  rw [IntKind.wrap_u64]; omega

theorem mid_eq {i j : Nat} (hi : i < 4611686018427387904) (hj : j < 4611686018427387904) :
    w64 (Int.fdiv (IntKind.wrap IntKind.u64 (w64 ((i : Int) + (j : Int)))) 2) = (((i + j) / 2 : Nat) : Int) := by
  have e1 : w64 ((i : Int) + (j : Int)) = (i : Int) + (j : Int) := w64_eq (by omega) (by omega)
  rw [e1, wrap_u64 (by omega) (by omega)]
  have : Int.fdiv ((i : Int) + (j : Int)) 2 = (((i + j) / 2 : Nat) : Int) := by
    rw [Int.fdiv_eq_ediv_of_nonneg _ (by decide)]; omega
  rw [this, w64_eq (by omega) (by omega)]

theorem okR_bytes {r : List Val} (h : okR r) : (0 + (re r).length) * 32 ≤ 140737488355328 := by
  have := h.1
  simp only [re, List.length_map]; omega

theorem val_ext {v w : Val} : (v.k = w.k ∧ v.n = w.n ∧ v.s = w.s) ↔ v = w := by
  obtain ⟨a, b, c⟩ := v
  obtain ⟨a', b', c'⟩ := w
  simp

def shortR (r : List Val) : Bool := r.all (fun v => decide (v.s.length ≤ 1000)) && decide (r.length ≤ 40)

theorem cast_le (n : Nat) (k : Nat) : ((n : Int) ≤ (k : Int)) ↔ n ≤ k := by omega

end Go.Proofs.YthmljoalohpafaaGreatDoor

set_option linter.unusedVariables false
set_option linter.unusedSimpArgs false
namespace Go.Proofs.YthmljoalohpafaaGreatDoor
open Go Go.Pu

def kN (k : Int) : List PV := [pI k]

theorem takes_res (op : Int) : (m_expr_takes [.i op]).res = some (0, [.i (tk op)]) := by
  simp only [m_expr_takes, res_test, res_stop, beq_iff_eq, tk]
  (repeat' split) <;> first | rfl | (exfalso; omega)

theorem tk_vals (op : Int) : tk op = -1 ∨ tk op = 0 ∨ tk op = 1 ∨ tk op = 2 := by unfold tk; (repeat' split) <;> omega
theorem tk_0 {op : Int} (h : tk op = 0) : op = 0 ∨ op = 1 := by unfold tk at h; (repeat' split at h) <;> first | assumption | (exfalso; omega)
theorem tk_1 {op : Int} (h : tk op = 1) : op = 9 ∨ op = 10 := by unfold tk at h; (repeat' split at h) <;> first | assumption | (exfalso; omega)
theorem tk_2 {op : Int} (h : tk op = 2) : 2 ≤ op ∧ op ≤ 8 := by unfold tk at h; (repeat' split at h) <;> first | assumption | (exfalso; omega)
theorem tk_at0 : tk 0 = 0 := rfl
theorem tk_at1 : tk 1 = 0 := rfl

theorem all_res (k : Int) (l : List Int) (hl : l.length ≤ 1000000) : (m_expr_all [.i k, .l (l.map kN)]).res = some (0, [.b (l.all (kOk k))]) := by
  have h := loop_all' l (rd := rd_expr_all_97_2) (fun i => [.i k, .l (l.map kN), .i (l.length : Nat), .i (i : Nat)]) (kOk k) 0 1 [.b false] [] (by simp [rd_expr_all_97_2]) (by
    intro i h
    by_cases c1 : l[i] = k
    · simp [rd_expr_all_97_2, el_map _ _ h, h, kN, kOk, c1, w64_succ (i := i) (by omega)]
    · by_cases c2 : l[i] = 0
      · simp [rd_expr_all_97_2, el_map _ _ h, h, kN, kOk, c1, c2, w64_succ (i := i) (by omega)]
      · simp [rd_expr_all_97_2, el_map _ _ h, h, kN, kOk, c1, c2, w64_succ (i := i) (by omega)])
  simp only [Int.natCast_zero] at h
  by_cases e : l.all (kOk k) = true
  · rw [if_pos e] at h
    simp only [m_expr_all, ln_map, h, ok_some', out_some, res_test, res_stop, beq_self_eq_true, if_true, show ((0 : Nat) == 1) = false from rfl, Bool.false_eq_true, if_false, e]
  · rw [if_neg e] at h
    rw [Bool.not_eq_true] at e
    simp only [m_expr_all, ln_map, h, ok_some', out_some, res_test, res_stop, beq_self_eq_true, if_true, uB_0, e]

theorem lv_comm (op a b : Int) : op ≠ 9 → lv op a b = lv op b a := by
  intro h
  unfold lv
  rw [if_neg h, if_neg h, Bool.and_comm (kOk 2 a), Bool.and_comm (kOk 1 a)]
  have e : decide (a = b ∨ a = 0 ∨ b = 0) = decide (b = a ∨ b = 0 ∨ a = 0) := by rw [decide_eq_decide]; omega
  rw [e]

theorem leaves1 (op b : Int) (h : tk op = 1) : (m_expr_leaves [.i op, .l [kN b]]).res = some (0, [.i (lv op 0 b).1, .b (lv op 0 b).2]) := by
  have h1 := all_res 1 [b] (by simp)
  simp only [List.map_cons, List.map_nil, List.all_cons, List.all_nil, Bool.and_true] at h1
  rcases tk_1 h with rfl | rfl
  · simp [m_expr_leaves, lv, h1]
  · simp [m_expr_leaves, lv]

theorem leaves2 (op a b : Int) (h : tk op = 2) : (m_expr_leaves [.i op, .l [kN a, kN b]]).res = some (0, [.i (lv op a b).1, .b (lv op a b).2]) := by
  have h1 := all_res 1 [a, b] (by simp)
  have h2 := all_res 2 [a, b] (by simp)
  simp only [List.map_cons, List.map_nil, List.all_cons, List.all_nil, Bool.and_true] at h1 h2
  have i0 : inR 0 (ln [kN a, kN b]) = true := rfl
  have i1 : inR 1 (ln [kN a, kN b]) = true := rfl
  have c0 : cI (List.getD [kN a, kN b] 0 []) 0 = a := rfl
  have c1 : cI (List.getD [kN a, kN b] 1 []) 0 = b := rfl
  have h5 : op = 2 ∨ op = 3 ∨ op = 4 ∨ op = 5 ∨ op = 6 ∨ op = 7 ∨ op = 8 := by have := tk_2 h; omega
  have e1 : ((if (a == b) = true then some (0, [U.i 1, U.b true]) else if (a == 0) = true then some (0, [U.i 1, U.b true]) else some (0, [U.i 1, U.b (b == 0)])) : Rs) = some (0, [.i 1, .b (decide (a = b ∨ a = 0 ∨ b = 0))]) := by
    by_cases x1 : a = b
    · simp [x1]
    · by_cases x2 : a = 0
      · simp [x1, x2]
      · simp [x1, x2]; rfl
  rcases h5 with rfl | rfl | rfl | rfl | rfl | rfl | rfl
  · simp [m_expr_leaves, lv, h2]
  · simp [m_expr_leaves, lv, h2]
  · simp [m_expr_leaves, lv, h2]
  · simp only [m_expr_leaves, res_test, res_stop, i0, i1, c0, c1, if_true, e1]
    simp [lv]
  · simp only [m_expr_leaves, res_test, res_stop, i0, i1, c0, c1, if_true, e1]
    simp [lv]
  · simp [m_expr_leaves, lv, h1]
  · simp [m_expr_leaves, lv, h1]

/-! kinds that are left, as they lie: the last one last -/

def sk (s : List Int) : List (List PV) := s.reverse.map kN
theorem sk_ln (s : List Int) : ln (sk s) = (s.length : Nat) := by unfold sk; rw [ln_map, List.length_reverse]
theorem sk_len (s : List Int) : (sk s).length = s.length := by simp [sk]
theorem sk_push (k : Int) (s : List Int) : sk s ++ [[pI k]] = sk (k :: s) := by simp [sk, kN]
theorem sk_top (b : Int) (s : List Int) : el (sk (b :: s)) ((s.length : Nat) : Int) = kN b := by
  have h : s.length < (b :: s).reverse.length := by simp
  unfold sk
  rw [el_map _ _ h]
  congr 1
  simp
theorem sk_pop (b : Int) (s : List Int) : List.take s.length (sk (b :: s)) = sk s := by simp [sk]
theorem sub_one {n : Nat} (h : n ≤ 1000000) : w64 (((n + 1 : Nat) : Int) - 1) = (n : Int) := by rw [w64_eq (by omega) (by omega)]; omega

section
variable (op n k vn : Int) (vs : ByteArray) (C : List (List PV))

theorem pop_some {t i : Int} (hi : i < t) (hw : w64 (i + 1) = i + 1) (ok : Bool) (o : List (List PV)) (ho : o.length ≤ 100) (b : Int) (s : List Int) (hs : s.length ≤ 1000) :
    (rd_expr_Type_58_3 [.i t, .i i, .b ok, .l C, .i op, .i n, .i k, .i vn, .s vs, .l o, .l (sk (b :: s))]).val = some (.next [.i t, .i (i + 1), .b ok, .l C, .i op, .i n, .i k, .i vn, .s vs, .l (o ++ [kN b]), .l (sk s)]) := by
  have e1 : ln (sk (b :: s)) = ((s.length + 1 : Nat) : Int) := by rw [sk_ln]; rfl
  have e2 : (((s.length + 1 : Nat) : Int) == 0) = false := by rw [beq_eq_false_iff_ne]; omega
  have e3 : inR ((s.length : Nat) : Int) ((s.length + 1 : Nat) : Int) = true := inR_iff.2 ⟨by omega, by omega⟩
  have e4 : decide (s.length < (sk (b :: s)).length) = true := by rw [decide_eq_true_eq, sk_len]; simp
  have e5 : decide ((0 : Int) ≤ 0 ∧ (0 : Int) ≤ ((s.length : Nat) : Int) ∧ ((s.length : Nat) : Int) ≤ ((s.length + 1 : Nat) : Int)) = true := by rw [decide_eq_true_eq]; omega
  have e6 : decide ((o.length + 1) * 8 ≤ 140737488355328) = true := by rw [decide_eq_true_eq]; omega
  have e7 : [pI (cI (kN b) 0)] = kN b := rfl
  simp only [rd_expr_Type_58_3, rt_test, rt_next, rt_stop, hi, decide_true, if_true, e1, e2, e3, e4, e5, e6, e7, sub_one (n := s.length) (by omega), sk_top, Int.toNat_natCast, Nat.sub_zero, sk_pop, Bool.false_eq_true, if_false, hw]

theorem pop_none {t i : Int} (hi : i < t) (hw : w64 (i + 1) = i + 1) (ok : Bool) (o : List (List PV)) (ho : o.length ≤ 100) :
    (rd_expr_Type_58_3 [.i t, .i i, .b ok, .l C, .i op, .i n, .i k, .i vn, .s vs, .l o, .l (sk [])]).val = some (.next [.i t, .i (i + 1), .b false, .l C, .i op, .i n, .i k, .i vn, .s vs, .l (o ++ [kN 0]), .l (sk [])]) := by
  have e1 : ln (sk []) = 0 := rfl
  have e6 : decide ((o.length + 1) * 8 ≤ 140737488355328) = true := by rw [decide_eq_true_eq]; omega
  have e7 : [pI 0] = kN 0 := rfl
  simp only [rd_expr_Type_58_3, rt_test, rt_next, rt_stop, hi, decide_true, if_true, e1, beq_self_eq_true, e6, e7, hw]

theorem pop_end {t i : Int} (hi : ¬ i < t) (ok : Bool) (o S : List (List PV)) :
    (rd_expr_Type_58_3 [.i t, .i i, .b ok, .l C, .i op, .i n, .i k, .i vn, .s vs, .l o, .l S]).val = some (.stop 0 [.b ok, .l C, .i op, .i n, .i k, .i vn, .s vs, .l o, .l S]) := by
  simp only [rd_expr_Type_58_3, rt_test, rt_next, rt_stop, hi, decide_false, Bool.false_eq_true, if_false]

theorem pops0 {t : Int} (ht : t ≤ 0) (S : List (List PV)) : lres rd_expr_Type_58_3 [.i t, .i 0, .b true, .l C, .i op, .i n, .i k, .i vn, .s vs, .l [], .l S] = some (0, [.b true, .l C, .i op, .i n, .i k, .i vn, .s vs, .l [], .l S]) :=
  lres_stop (pop_end op n k vn vs C (by omega) true [] S)
theorem pops1 (b : Int) (s : List Int) (hs : s.length ≤ 1000) : lres rd_expr_Type_58_3 [.i 1, .i 0, .b true, .l C, .i op, .i n, .i k, .i vn, .s vs, .l [], .l (sk (b :: s))] = some (0, [.b true, .l C, .i op, .i n, .i k, .i vn, .s vs, .l [kN b], .l (sk s)]) := by
  rw [lres_next (pop_some op n k vn vs C (by decide) rfl true [] (by simp) b s hs)]
  exact lres_stop (pop_end op n k vn vs C (by decide) true _ _)
theorem pops1n : lres rd_expr_Type_58_3 [.i 1, .i 0, .b true, .l C, .i op, .i n, .i k, .i vn, .s vs, .l [], .l (sk [])] = some (0, [.b false, .l C, .i op, .i n, .i k, .i vn, .s vs, .l [kN 0], .l (sk [])]) := by
  rw [lres_next (pop_none op n k vn vs C (by decide) rfl true [] (by simp))]
  exact lres_stop (pop_end op n k vn vs C (by decide) false _ _)
theorem pops2 (b a : Int) (s : List Int) (hs : s.length ≤ 900) : lres rd_expr_Type_58_3 [.i 2, .i 0, .b true, .l C, .i op, .i n, .i k, .i vn, .s vs, .l [], .l (sk (b :: a :: s))] = some (0, [.b true, .l C, .i op, .i n, .i k, .i vn, .s vs, .l [kN b, kN a], .l (sk s)]) := by
  rw [lres_next (pop_some op n k vn vs C (by decide) rfl true [] (by simp) b (a :: s) (by simp; omega)), lres_next (pop_some op n k vn vs C (by decide) rfl true _ (by simp) a s (by omega))]
  exact lres_stop (pop_end op n k vn vs C (by decide) true _ _)
theorem pops2n (s : List Int) (hs : s.length ≤ 1) : ∃ o S, lres rd_expr_Type_58_3 [.i 2, .i 0, .b true, .l C, .i op, .i n, .i k, .i vn, .s vs, .l [], .l (sk s)] = some (0, [.b false, .l C, .i op, .i n, .i k, .i vn, .s vs, .l o, .l S]) := by
  match s, hs with
  | [], _ =>
    refine ⟨[kN 0, kN 0], sk [], ?_⟩
    rw [lres_next (pop_none op n k vn vs C (by decide) rfl true [] (by simp)), lres_next (pop_none op n k vn vs C (by decide) rfl false _ (by simp))]
    exact lres_stop (pop_end op n k vn vs C (by decide) false _ _)
  | [b], _ =>
    refine ⟨[kN b, kN 0], sk [], ?_⟩
    rw [lres_next (pop_some op n k vn vs C (by decide) rfl true [] (by simp) b [] (by simp)), lres_next (pop_none op n k vn vs C (by decide) rfl true _ (by simp))]
    exact lres_stop (pop_end op n k vn vs C (by decide) false _ _)
end

theorem type_round (e : List Nd) (hl : e.length ≤ 100) (cols : List Int) (hc : cols.length ≤ 140737488355328) (i : Nat) (hi : i < e.length) (he : e[i].ok) (s : List Int) (hs : s.length ≤ i) :
    (rd_expr_Type_25_6 [.l (e.map Nd.e), .i (e.length : Nat), .i (i : Nat), .b true, .l (cols.map kN), .l (sk s)]).val =
      match stepT cols s e[i] with
      | none => some (.stop 0 [.i 0, .i 30])
      | some s' => some (.next [.l (e.map Nd.e), .i (e.length : Nat), .i ((i + 1 : Nat) : Int), .b true, .l (cols.map kN), .l (sk s')]) := by
  have hel : el (e.map Nd.e) ((i : Nat) : Int) = Nd.e e[i] := el_map _ _ hi
  have ht := takes_res e[i].op
  have c0 : cI (Nd.e e[i]) 0 = e[i].op := rfl
  have c1 : cI (Nd.e e[i]) 1 = e[i].n := rfl
  have c2 : cI (Nd.e e[i]) 2 = e[i].v.k := rfl
  have c3 : cI (Nd.e e[i]) 3 = e[i].v.n := rfl
  have c4 : cS (Nd.e e[i]) 4 = bs e[i].v.s := rfl
  have hm := value_May_res e[i].v
  have hlen : ∀ s : List Int, s.length ≤ 101 → decide (((sk s).length + 1) * 8 ≤ 140737488355328) = true := fun s h => by rw [decide_eq_true_eq, sk_len]; omega
  generalize e[i] = d at *
  obtain ⟨op, n, v⟩ := d
  simp only at c0 c1 c2 c3 c4 ht hm
  unfold stepT
  simp only
  have z30 : ∀ x : Int, (x == x) = true := fun x => by simp
  rcases tk_vals op with h | h | h | h
  · -- no such step
    have g0 : ¬ op = 0 := by rintro rfl; exact absurd h (by decide)
    have g1 : ¬ op = 1 := by rintro rfl; exact absurd h (by decide)
    rw [if_neg g0, if_neg g1, if_neg (by omega), if_neg (by omega)]
    have hp := pops0 op n v.k v.n (bs v.s) (cols.map kN) (t := tk op) (by omega) (sk s)
    rw [h] at ht hp
    simp only [rd_expr_Type_25_6, rt_test, rt_next, rt_stop, hel, ln_map, inR_cast, Int.ofNat_lt, hi, decide_true, if_true, c0, c1, c2, c3, c4, ht, hp, ok_some', out_some, uI_0, uI_s, uB_0, uB_s, uL_0, uL_s, uS_0, uS_s, beq_self_eq_true, Bool.not_true, Bool.false_eq_true, if_false, show decide ((-1 : Int) < 0) = true from rfl]
  · -- a column, a value
    have hp := pops0 op n v.k v.n (bs v.s) (cols.map kN) (t := tk op) (by omega) (sk s)
    rw [h] at ht hp
    rcases tk_0 h with rfl | rfl
    · rw [if_pos rfl]
      simp only [rd_expr_Type_25_6, rt_test, rt_next, rt_stop, hel, ln_map, inR_cast, Int.ofNat_lt, hi, decide_true, if_true, c0, c1, c2, c3, c4, ht, hp, ok_some', out_some, uI_0, uI_s, uB_0, uB_s, uL_0, uL_s, uS_0, uS_s, beq_self_eq_true, Bool.not_true, Bool.false_eq_true, if_false, show decide ((0 : Int) < 0) = false from rfl]
      by_cases n0 : n < 0
      · rw [if_neg (c := 0 ≤ n ∧ n < (cols.length : Int) ∧ 1 ≤ cols.getD n.toNat 0 ∧ cols.getD n.toNat 0 ≤ 3) (fun h => by omega)]
        simp only [n0, decide_true, if_true]
      · by_cases n1 : n ≥ (cols.length : Int)
        · rw [if_neg (c := 0 ≤ n ∧ n < (cols.length : Int) ∧ 1 ≤ cols.getD n.toNat 0 ∧ cols.getD n.toNat 0 ≤ 3) (fun h => by omega)]
          simp only [n0, n1, decide_true, decide_false, Bool.false_eq_true, if_false, if_true]
        · obtain ⟨m, rfl⟩ : ∃ m : Nat, n = m := ⟨n.toNat, by omega⟩
          have hm' : m < cols.length := by omega
          have g : cols.getD m 0 = cols[m] := by rw [List.getD, List.getElem?_eq_getElem hm']; rfl
          have cc : cI (kN cols[m]) 0 = cols[m] := rfl
          rw [Int.toNat_natCast, g]
          simp only [n0, n1, decide_false, Bool.false_eq_true, if_false, el_map _ _ hm', inR_cast, hm', decide_true, if_true, cc]
          by_cases k1 : cols[m] < 1
          · rw [if_neg (c := 0 ≤ (m : Int) ∧ (m : Int) < (cols.length : Int) ∧ 1 ≤ cols[m] ∧ cols[m] ≤ 3) (fun h => by omega)]
            simp only [k1, decide_true, if_true]
          · by_cases k2 : cols[m] > 3
            · rw [if_neg (c := 0 ≤ (m : Int) ∧ (m : Int) < (cols.length : Int) ∧ 1 ≤ cols[m] ∧ cols[m] ≤ 3) (fun h => by omega)]
              simp only [k1, k2, decide_true, decide_false, Bool.false_eq_true, if_false, if_true]
            · rw [if_pos (c := 0 ≤ (m : Int) ∧ (m : Int) < (cols.length : Int) ∧ 1 ≤ cols[m] ∧ cols[m] ≤ 3) (by omega)]
              simp only [k1, k2, decide_true, decide_false, Bool.false_eq_true, if_false, if_true, hlen s (by omega), sk_push, w64_succ (i := i) (by omega)]
    · rw [if_neg (by decide), if_pos rfl]
      simp only [rd_expr_Type_25_6, rt_test, rt_next, rt_stop, hel, ln_map, inR_cast, Int.ofNat_lt, hi, decide_true, if_true, c0, c1, c2, c3, c4, ht, hp, ok_some', out_some, uI_0, uI_s, uB_0, uB_s, uL_0, uL_s, uS_0, uS_s, beq_self_eq_true, Bool.not_true, Bool.false_eq_true, if_false, show decide ((0 : Int) < 0) = false from rfl, show ((1 : Int) == 0) = false from rfl, hlen s (by omega), hm, sk_push, w64_succ (i := i) (by omega)]
      cases mayV v <;> rfl
  · -- of one
    have g0 : ¬ op = 0 := by rintro rfl; exact absurd h (by decide)
    have g1 : ¬ op = 1 := by rintro rfl; exact absurd h (by decide)
    have b0 : (op == 0) = false := by simpa using g0
    have b1 : (op == 1) = false := by simpa using g1
    rw [if_neg g0, if_neg g1, if_pos h]
    rw [h] at ht
    match s, hs with
    | [], _ =>
      have hp := pops1n op n v.k v.n (bs v.s) (cols.map kN)
      simp only [rd_expr_Type_25_6, rt_test, rt_next, rt_stop, hel, ln_map, inR_cast, Int.ofNat_lt, hi, decide_true, if_true, c0, c1, c2, c3, c4, ht, hp, ok_some', out_some, uI_0, uI_s, uB_0, uB_s, uL_0, uL_s, uS_0, uS_s, beq_self_eq_true, Bool.not_false]
    | b :: s, hs =>
      have hs' : s.length + 1 ≤ i := by simpa using hs
      have hp := pops1 op n v.k v.n (bs v.s) (cols.map kN) b s (by omega)
      have hv := leaves1 op b h
      simp only [rd_expr_Type_25_6, rt_test, rt_next, rt_stop, hel, ln_map, inR_cast, Int.ofNat_lt, hi, decide_true, if_true, c0, c1, c2, c3, c4, ht, hp, hv, b0, b1, ok_some', out_some, uI_0, uI_s, uB_0, uB_s, uL_0, uL_s, uS_0, uS_s, beq_self_eq_true, Bool.not_true, Bool.false_eq_true, if_false, show decide ((1 : Int) < 0) = false from rfl, hlen s (by omega), sk_push, w64_succ (i := i) (by omega), appT]
      cases (lv op 0 b).2 <;> rfl
  · -- of two
    have g0 : ¬ op = 0 := by rintro rfl; exact absurd h (by decide)
    have g1 : ¬ op = 1 := by rintro rfl; exact absurd h (by decide)
    have g9 : op ≠ 9 := by rintro rfl; exact absurd h (by decide)
    have b0 : (op == 0) = false := by simpa using g0
    have b1 : (op == 1) = false := by simpa using g1
    rw [if_neg g0, if_neg g1, if_neg (by omega), if_pos h]
    rw [h] at ht
    match s, hs with
    | b :: a :: s, hs =>
      have hs' : s.length + 1 + 1 ≤ i := by simpa using hs
      have hp := pops2 op n v.k v.n (bs v.s) (cols.map kN) b a s (by omega)
      have hv := leaves2 op b a h
      rw [lv_comm op b a g9] at hv
      simp only [rd_expr_Type_25_6, rt_test, rt_next, rt_stop, hel, ln_map, inR_cast, Int.ofNat_lt, hi, decide_true, if_true, c0, c1, c2, c3, c4, ht, hp, hv, b0, b1, ok_some', out_some, uI_0, uI_s, uB_0, uB_s, uL_0, uL_s, uS_0, uS_s, beq_self_eq_true, Bool.not_true, Bool.false_eq_true, if_false, show decide ((2 : Int) < 0) = false from rfl, hlen s (by omega), sk_push, w64_succ (i := i) (by omega), appT]
      cases (lv op a b).2 <;> rfl
    | [], hs =>
      obtain ⟨o, S, hp⟩ := pops2n op n v.k v.n (bs v.s) (cols.map kN) [] (by simp)
      simp only [rd_expr_Type_25_6, rt_test, rt_next, rt_stop, hel, ln_map, inR_cast, Int.ofNat_lt, hi, decide_true, if_true, c0, c1, c2, c3, c4, ht, hp, ok_some', out_some, uI_0, uI_s, uB_0, uB_s, uL_0, uL_s, uS_0, uS_s, beq_self_eq_true, Bool.not_false]
    | [b], hs =>
      obtain ⟨o, S, hp⟩ := pops2n op n v.k v.n (bs v.s) (cols.map kN) [b] (by simp)
      simp only [rd_expr_Type_25_6, rt_test, rt_next, rt_stop, hel, ln_map, inR_cast, Int.ofNat_lt, hi, decide_true, if_true, c0, c1, c2, c3, c4, ht, hp, ok_some', out_some, uI_0, uI_s, uB_0, uB_s, uL_0, uL_s, uS_0, uS_s, beq_self_eq_true, Bool.not_false]

theorem stepT_len {cols s s' : List Int} {d : Nd} (h : stepT cols s d = some s') : s'.length ≤ s.length + 1 := by
  have ha : ∀ op a b (s s' : List Int), appT op a b s = some s' → s'.length = s.length + 1 := by
    intro op a b s s' h
    unfold appT at h
    split at h
    · injection h with h; subst h; rfl
    · cases h
  unfold stepT at h
  (repeat' split at h) <;> first | (injection h with h; subst h; simp) | (have := ha _ _ _ _ _ h; simp only [List.length_cons] at *; omega) | cases h

theorem type_loop (e : List Nd) (hl : e.length ≤ 100) (he : ∀ d ∈ e, d.ok) (cols : List Int) (hc : cols.length ≤ 140737488355328) : ∀ m i (s : List Int), e.length - i = m → i ≤ e.length → s.length ≤ i →
    lres rd_expr_Type_25_6 [.l (e.map Nd.e), .i (e.length : Nat), .i (i : Nat), .b true, .l (cols.map kN), .l (sk s)] =
      match runT cols (e.drop i) s with
      | none => some (0, [.i 0, .i 30])
      | some s' => some (1, [.b true, .l (cols.map kN), .l (sk s')]) := by
  intro m
  induction m with
  | zero =>
    intro i s h1 h2 h3
    have : i = e.length := by omega
    subst this
    rw [List.drop_length, runT]
    refine lres_stop ?_
    simp [rd_expr_Type_25_6]
  | succ m ih =>
    intro i s h1 h2 h3
    have h : i < e.length := by omega
    have hr := type_round e hl cols hc i h (he _ (List.getElem_mem h)) s h3
    rw [List.drop_eq_getElem_cons h, runT]
    cases hs : stepT cols s e[i] with
    | none =>
      rw [hs] at hr
      exact lres_stop hr
    | some s1 =>
      rw [hs] at hr
      have := stepT_len hs
      rw [lres_next hr]
      exact ih (i + 1) s1 (by omega) (by omega) (by omega)

theorem Type_res (e : List Nd) (he : ∀ d ∈ e, d.ok) (cols : List Int) (hc : cols.length ≤ 140737488355328) : (m_expr_Type [.l (e.map Nd.e), .l (cols.map kN)]).res = some (0, [.i (typeV e cols).1, .i (typeV e cols).2]) := by
  unfold typeV
  by_cases hl : e.length > 100
  · have : ((e.length : Nat) : Int) > 100 := by omega
    rw [if_pos hl]
    simp only [m_expr_Type, ln_map, res_test, res_stop, this, decide_true, if_true]
  · have h1 : ¬ ((e.length : Nat) : Int) > 100 := by omega
    have h := type_loop e (by omega) he cols hc e.length 0 [] (by omega) (by omega) (by simp)
    simp only [List.drop_zero, Int.natCast_zero, show sk [] = [] from rfl] at h
    rw [if_neg hl]
    match hr : runT cols e [] with
    | none =>
      rw [hr] at h
      simp only [m_expr_Type, ln_map, res_test, res_stop, h1, decide_false, Bool.false_eq_true, if_false, h, ok_some', out_some, beq_self_eq_true, if_true, uI_0, uI_s]
    | some [] =>
      rw [hr] at h
      simp only [m_expr_Type, ln_map, res_test, res_stop, h1, decide_false, Bool.false_eq_true, if_false, h, ok_some', out_some, beq_self_eq_true, if_true, uI_0, uI_s, uB_0, uL_0, uL_s, show ((0 : Nat) == 1) = false from rfl, Bool.not_true, show (ln (sk []) != 1) = true from rfl]
    | some [k] =>
      rw [hr] at h
      simp only [m_expr_Type, ln_map, res_test, res_stop, h1, decide_false, Bool.false_eq_true, if_false, h, ok_some', out_some, beq_self_eq_true, if_true, uI_0, uI_s, uB_0, uL_0, uL_s, show ((0 : Nat) == 1) = false from rfl, Bool.not_true, show (ln (sk [k]) != 1) = false from rfl, show inR 0 (ln (sk [k])) = true from rfl, show decide (0 < (sk [k]).length) = true from rfl]
      rfl
    | some (k :: l :: s) =>
      rw [hr] at h
      have e1 : (ln (sk (k :: l :: s)) != 1) = true := by rw [sk_ln, bne_iff_ne]; simp; omega
      simp only [m_expr_Type, ln_map, res_test, res_stop, h1, decide_false, Bool.false_eq_true, if_false, h, ok_some', out_some, beq_self_eq_true, if_true, uI_0, uI_s, uB_0, uL_0, uL_s, show ((0 : Nat) == 1) = false from rfl, Bool.not_true, e1]

end Go.Proofs.YthmljoalohpafaaGreatDoor

set_option linter.unusedVariables false
set_option linter.unusedSimpArgs false
namespace Go.Proofs.YthmljoalohpafaaGreatDoor
open Go Go.Pu

theorem compare_res (op : Int) (a b : Val) (h : op = 5 ∨ op = 6) : (m_expr_compare [.i op, .i a.k, .i a.n, .s (bs a.s), .i b.k, .i b.n, .s (bs b.s)]).res = some (0, (cmpE op a b).u) := by
  have h1 := value_Compare_res a b
  have h2 := Truth_res (decide (cmpV a b < 0))
  have e : ({ data := #[] } : ByteArray) = bs [] := rfl
  unfold cmpE
  by_cases a0 : a.k = 0
  · simp [m_expr_compare, a0, nul, Val.u, e]
  by_cases b0 : b.k = 0
  · simp [m_expr_compare, a0, b0, nul, Val.u, e]
  rcases h with rfl | rfl
  · by_cases c : cmpV a b = 0
    · simp [m_expr_compare, a0, b0, h1, c, tru, Val.u, e]
    · simp [m_expr_compare, a0, b0, h1, c, tru, Val.u, e]
  · simp only [Val.u] at h2
    simp [m_expr_compare, a0, b0, h1, h2, Val.u]

theorem do_res (op : Int) (a b : Val) (ha : a.ok) (hb : b.ok) (h : tk op = 1 ∨ tk op = 2) : (m_expr_do [.i op, .i a.k, .i a.n, .s (bs a.s), .i b.k, .i b.n, .s (bs b.s)]).res = some (0, ru (do2 op a b)) := by
  have h1 := Add_res a b ha hb
  have h2 := Sub_res a b ha hb
  have h3 := Mul_res a b ha hb
  have h4 := And_res [a, b] (by simp)
  have h5 := Or_res [a, b] (by simp)
  have h6 := Not_res b
  have h7 := Truth_res (b.k == 0)
  have h8 : op = 5 ∨ op = 6 → _ := compare_res op a b
  have e1 : re [a, b] = [[pI a.k, pI a.n, pS (bs a.s)], [pI b.k, pI b.n, pS (bs b.s)]] := rfl
  rw [e1] at h4 h5
  simp only [ru, Val.u] at h1 h2 h3 h4 h5 h6 h7 h8
  have hop : op = 2 ∨ op = 3 ∨ op = 4 ∨ op = 5 ∨ op = 6 ∨ op = 7 ∨ op = 8 ∨ op = 9 ∨ op = 10 := by
    rcases h with h | h
    · have := tk_1 h; omega
    · have := tk_2 h; omega
  unfold do2
  rcases hop with rfl | rfl | rfl | rfl | rfl | rfl | rfl | rfl | rfl
  · simp [m_expr_do, h1, ru]
  · simp [m_expr_do, h2, ru]
  · simp [m_expr_do, h3, ru]
  · simp [m_expr_do, h8, ru]
  · simp [m_expr_do, h8, ru]
  · simp [m_expr_do, h4, ru]
  · simp [m_expr_do, h5, ru]
  · simp [m_expr_do, h6, ru]
  · have h9 : (m_value_Truth [.b (b.k == 0)]).res = some (0, [.i (tru (decide (b.k = 0))).k, .i (tru (decide (b.k = 0))).n, .s (bs (tru (decide (b.k = 0))).s)]) := h7
    simp [m_expr_do, h9, ru]

/-! values that are left, as they lie -/

def sv (s : List Val) : List (List PV) := re s.reverse
theorem sv_ln (s : List Val) : ln (sv s) = (s.length : Nat) := by unfold sv; rw [ln_re, List.length_reverse]
theorem sv_len (s : List Val) : (sv s).length = s.length := by simp [sv, re]
theorem sv_push (v : Val) (s : List Val) : sv s ++ [[pI v.k, pI v.n, pS (bs v.s)]] = sv (v :: s) := by simp [sv, re, Val.e]
theorem sv_top (b : Val) (s : List Val) : el (sv (b :: s)) ((s.length : Nat) : Int) = Val.e b := by
  have h : s.length < (b :: s).reverse.length := by simp
  unfold sv
  rw [el_re _ h]
  congr 1
  simp
theorem sv_at (b a : Val) (s : List Val) : List.getD (sv (b :: a :: s)) s.length [] = Val.e a := by
  have h : s.length < (b :: a :: s).reverse.length := by rw [List.length_reverse, List.length_cons, List.length_cons]; omega
  have h2 : el (sv (b :: a :: s)) ((s.length : Nat) : Int) = Val.e a := by
    unfold sv
    rw [el_re _ h]
    congr 1
    simp
  exact h2
theorem sv_pop (b : Val) (s : List Val) : List.take s.length (sv (b :: s)) = sv s := by simp [sv, re]
theorem sv_pop2 (b a : Val) (s : List Val) : List.take s.length (sv (b :: a :: s)) = sv s := by simp [sv, re]

def okSt (s : List Val) : Prop := ∀ v ∈ s, v.ok

theorem nulE_ok : nul.ok := ⟨by unfold nul i64; simp, by unfold nul i64; simp, by unfold nul big; simp⟩

theorem tru_ok (b : Bool) : (tru b).ok := ⟨by unfold tru i64; simp, by unfold tru i64; cases b <;> simp, by unfold tru big; simp⟩
theorem intV_okE {n : Int} (h : i64 n) : (intV n).ok := ⟨by unfold intV i64; simp, h, by unfold intV big; simp⟩
theorem arith_okE (f : Int → Int → Int) (a b : Val) : (arith f a b).1.ok := by
  unfold arith
  (repeat' split)
  · exact nulE_ok
  · exact nulE_ok
  · rename_i h
    have h' : -9223372036854775808 ≤ f a.n b.n ∧ f a.n b.n < 9223372036854775808 := of_decide_eq_true h
    exact intV_okE h'
  · exact nulE_ok
theorem foldV_okE (b : Bool) (l : List Val) : (foldV b l).ok := by
  unfold foldV; (repeat' split) <;> first | exact tru_ok _ | exact nulE_ok
theorem notV_okE (v : Val) : (notV v).ok := by
  unfold notV; (repeat' split) <;> first | exact tru_ok _ | exact nulE_ok
theorem do2_ok (op : Int) (a b : Val) : (do2 op a b).1.ok := by
  unfold do2 addV subV mulV
  (repeat' split)
  · exact arith_okE _ _ _
  · exact arith_okE _ _ _
  · exact arith_okE _ _ _
  · exact foldV_okE _ _
  · exact foldV_okE _ _
  · exact notV_okE _
  · exact tru_ok _
  · unfold cmpE; split
    · exact nulE_ok
    · exact tru_ok _

theorem appV_len {op : Int} {a b : Val} {s t : List Val} (h : appV op a b s = .ok t) : t.length = s.length + 1 ∧ (okSt s → okSt t) := by
  unfold appV at h
  split at h
  · split at h
    · injection h with h
      subst h
      exact ⟨rfl, fun hs v hv => (List.mem_cons.1 hv).elim (fun e => e ▸ do2_ok _ _ _) (hs v)⟩
    · cases h
  · cases h

theorem stepV_len {row s s' : List Val} {d : Nd} (h : stepV row s d = .ok s') : s'.length ≤ s.length + 1 ∧ ((∀ v ∈ row, v.ok) → d.ok → okSt s → okSt s') := by
  unfold stepV at h
  split at h
  · split at h
    · rename_i hc
      injection h with h
      subst h
      refine ⟨Nat.le_refl _, fun hr hd hs v hv => ?_⟩
      rcases List.mem_cons.1 hv with rfl | hv
      · have : d.n.toNat < row.length := by omega
        rw [List.getD, List.getElem?_eq_getElem this]
        exact hr _ (List.getElem_mem this)
      · exact hs v hv
    · cases h
  · split at h
    · split at h
      · injection h with h
        subst h
        refine ⟨Nat.le_refl _, fun hr hd hs v hv => ?_⟩
        rcases List.mem_cons.1 hv with rfl | hv
        · exact hd.2.2
        · exact hs v hv
      · cases h
    · split at h
      · match s, h with
        | b :: s, h =>
          obtain ⟨h1, h2⟩ := appV_len h
          exact ⟨by simp; omega, fun _ _ hs => h2 fun v hv => hs v (List.mem_cons_of_mem _ hv)⟩
      · split at h
        · match s, h with
          | b :: a :: s, h =>
            obtain ⟨h1, h2⟩ := appV_len h
            exact ⟨by simp; omega, fun _ _ hs => h2 fun v hv => hs v (List.mem_cons_of_mem _ (List.mem_cons_of_mem _ hv))⟩
        · cases h

/-- what a round comes to -/
def roundV (e : List Nd) (row : List Val) (i : Nat) (r : Except Int (List Val)) : Rv :=
  match r with
  | .error f => .stop 0 [.i f, .i 0, .i 0, .s (bs [])]
  | .ok s' => .next [.l (e.map Nd.e), .i (e.length : Nat), .i ((i + 1 : Nat) : Int), .i 0, .i 0, .s (bs []), .b true, .l (re row), .l (sv s')]

set_option maxHeartbeats 800000 in
theorem eval_round (e : List Nd) (hl : e.length ≤ 100) (row : List Val) (hrow : okR row) (i : Nat) (hi : i < e.length) (he : e[i].ok) (s : List Val) (hs : s.length ≤ i) (hok : okSt s) :
    (rd_expr_Eval_7_6 [.l (e.map Nd.e), .i (e.length : Nat), .i (i : Nat), .i 0, .i 0, .s (bs []), .b true, .l (re row), .l (sv s)]).val = some (roundV e row i (stepV row s e[i])) := by
  have hel : el (e.map Nd.e) ((i : Nat) : Int) = Nd.e e[i] := el_map _ _ hi
  have ht := takes_res e[i].op
  have c0 : cI (Nd.e e[i]) 0 = e[i].op := rfl
  have c1 : cI (Nd.e e[i]) 1 = e[i].n := rfl
  have c2 : cI (Nd.e e[i]) 2 = e[i].v.k := rfl
  have c3 : cI (Nd.e e[i]) 3 = e[i].v.n := rfl
  have c4 : cS (Nd.e e[i]) 4 = bs e[i].v.s := rfl
  have hm := value_May_res e[i].v
  have hlen : ∀ s : List Val, s.length ≤ 101 → decide (((sv s).length + 1) * 32 ≤ 140737488355328) = true := fun s h => by rw [decide_eq_true_eq, sv_len]; omega
  have v0 : ∀ v : Val, cI (Val.e v) 0 = v.k := fun _ => rfl
  have v1 : ∀ v : Val, cI (Val.e v) 1 = v.n := fun _ => rfl
  have v2 : ∀ v : Val, cS (Val.e v) 2 = bs v.s := fun _ => rfl
  have eb : ({ data := #[] } : ByteArray) = bs [] := rfl
  generalize e[i] = d at *
  obtain ⟨op, n, v⟩ := d
  simp only at c0 c1 c2 c3 c4 ht hm
  unfold stepV
  simp only
  rcases tk_vals op with h | h | h | h
  · have g0 : ¬ op = 0 := by rintro rfl; exact absurd h (by decide)
    have g1 : ¬ op = 1 := by rintro rfl; exact absurd h (by decide)
    rw [if_neg g0, if_neg g1, if_neg (by omega), if_neg (by omega)]
    rw [h] at ht
    simp only [↓reduceIte, rd_expr_Eval_7_6, rt_test, rt_next, rt_stop, hel, ln_map, inR_cast, Int.ofNat_lt, hi, decide_true, if_true, c0, ht, ok_some', out_some, uI_0, beq_self_eq_true, Bool.not_true, Bool.false_eq_true, if_false, show decide ((-1 : Int) > 0) = false from rfl, show decide ((-1 : Int) > 1) = false from rfl, show decide ((-1 : Int) < 0) = true from rfl, eb, roundV]
  · rw [h] at ht
    rcases tk_0 h with rfl | rfl
    · rw [if_pos rfl]
      simp only [↓reduceIte, rd_expr_Eval_7_6, rt_test, rt_next, rt_stop, hel, ln_map, ln_re, inR_cast, Int.ofNat_lt, hi, decide_true, if_true, c0, c1, ht, ok_some', out_some, uI_0, beq_self_eq_true, Bool.not_true, Bool.false_eq_true, if_false, show decide ((0 : Int) > 0) = false from rfl, show decide ((0 : Int) > 1) = false from rfl, show decide ((0 : Int) < 0) = false from rfl]
      by_cases n0 : n < 0
      · rw [if_neg (c := 0 ≤ n ∧ n < (row.length : Int)) (fun h => by omega)]
        simp only [n0, decide_true, if_true, eb, roundV]
      · by_cases n1 : n ≥ (row.length : Int)
        · rw [if_neg (c := 0 ≤ n ∧ n < (row.length : Int)) (fun h => by omega)]
          simp only [n0, n1, decide_true, decide_false, Bool.false_eq_true, if_false, if_true, eb, roundV]
        · obtain ⟨m, rfl⟩ : ∃ m : Nat, n = m := ⟨n.toNat, by omega⟩
          have hm' : m < row.length := by omega
          have g : row.getD m nul = row[m] := by rw [List.getD, List.getElem?_eq_getElem hm']; rfl
          rw [if_pos (c := 0 ≤ (m : Int) ∧ (m : Int) < (row.length : Int)) (by omega), Int.toNat_natCast, g]
          simp only [n0, n1, decide_false, Bool.false_eq_true, if_false, el_re _ hm', inR_cast, hm', decide_true, if_true, v0, v1, v2, hlen s (by omega), sv_push, w64_succ (i := i) (by omega), roundV]
    · rw [if_neg (by decide), if_pos rfl]
      simp only [↓reduceIte, rd_expr_Eval_7_6, rt_test, rt_next, rt_stop, hel, ln_map, inR_cast, Int.ofNat_lt, hi, decide_true, if_true, c0, c2, c3, c4, ht, hm, ok_some', out_some, uI_0, uB_0, beq_self_eq_true, Bool.not_true, Bool.false_eq_true, if_false, show decide ((0 : Int) > 0) = false from rfl, show decide ((0 : Int) > 1) = false from rfl, show decide ((0 : Int) < 0) = false from rfl, show ((1 : Int) == 0) = false from rfl, hlen s (by omega), sv_push, w64_succ (i := i) (by omega), eb]
      cases mayV v <;> rfl
  · have g0 : ¬ op = 0 := by rintro rfl; exact absurd h (by decide)
    have g1 : ¬ op = 1 := by rintro rfl; exact absurd h (by decide)
    have b0 : (op == 0) = false := by simpa using g0
    have b1 : (op == 1) = false := by simpa using g1
    rw [if_neg g0, if_neg g1, if_pos h]
    have htk := h
    rw [h] at ht
    match s, hs, hok with
    | [], _, _ =>
      simp only [↓reduceIte, rd_expr_Eval_7_6, rt_test, rt_next, rt_stop, hel, ln_map, inR_cast, Int.ofNat_lt, hi, decide_true, if_true, c0, ht, ok_some', out_some, uI_0, beq_self_eq_true, show decide ((1 : Int) > 0) = true from rfl, show decide ((1 : Int) > 1) = false from rfl, show ln (sv []) = 0 from rfl, Bool.false_eq_true, if_false, eb, roundV]
    | b :: s, hs, hok =>
      have hs' : s.length + 1 ≤ i := by simpa using hs
      have hb : b.ok := hok b (List.mem_cons_self ..)
      have hv := leaves1 op b.k h
      have hd := do_res op nul b nulE_ok hb (.inl h)
      have e1 : ln (sv (b :: s)) = ((s.length + 1 : Nat) : Int) := by rw [sv_ln]; rfl
      have e2 : (((s.length + 1 : Nat) : Int) == 0) = false := by rw [beq_eq_false_iff_ne]; omega
      have e3 : inR ((s.length : Nat) : Int) ((s.length + 1 : Nat) : Int) = true := inR_iff.2 ⟨by omega, by omega⟩
      have e4 : decide (s.length < (sv (b :: s)).length) = true := by rw [decide_eq_true_eq, sv_len]; simp
      have e5 : decide ((0 : Int) ≤ 0 ∧ (0 : Int) ≤ ((s.length : Nat) : Int) ∧ ((s.length : Nat) : Int) ≤ ((s.length + 1 : Nat) : Int)) = true := by rw [decide_eq_true_eq]; omega
      have e6 : decide (0 + s.length ≤ (sv (b :: s)).length) = true := by rw [decide_eq_true_eq, sv_len]; simp
      have e7 : decide ((0 : Int) ≤ w64 (2 - 1) ∧ w64 (2 - 1) ≤ 2 ∧ (2 : Int) ≤ 2) = true := rfl
      have e8 : decide (Int.toNat (w64 (2 - 1)) + (2 - Int.toNat (w64 (2 - 1))) ≤ 2) = true := rfl
      have e9 : List.take (2 - Int.toNat (w64 (2 - 1))) (List.drop (Int.toNat (w64 (2 - 1))) [[pI 0], [pI b.k]]) = [kN b.k] := rfl
      simp only [show nul.k = 0 from rfl, show nul.n = 0 from rfl, show nul.s = [] from rfl] at hd
      simp only [↓reduceIte, rd_expr_Eval_7_6, rt_test, rt_next, rt_stop, hel, ln_map, inR_cast, Int.ofNat_lt, hi, decide_true, if_true, c0, c1, c2, c3, c4, ht, b0, b1, e1, e2, e3, e4, e5, e6, e7, e8, e9, sub_one (n := s.length) (by omega), sv_top, Int.toNat_natCast, Nat.sub_zero, sv_pop, v0, v1, v2, hv, eb, hd, ru, ok_some', out_some, uI_0, uI_s, uB_0, uB_s, uS_0, uS_s, beq_self_eq_true, Bool.not_true, Bool.false_eq_true, if_false, show decide ((1 : Int) > 0) = true from rfl, show decide ((1 : Int) > 1) = false from rfl, show decide ((1 : Int) < 0) = false from rfl, hlen s (by omega), sv_push, w64_succ (i := i) (by omega)]
      unfold appV
      rw [show nul.k = 0 from rfl]
      cases (lv op 0 b.k).2 with
      | false => simp only [Bool.not_false, if_true, Bool.false_eq_true, if_false, roundV]
      | true =>
        cases (do2 op nul b).2 with
        | false => simp only [Bool.not_false, Bool.not_true, if_true, Bool.false_eq_true, if_false, roundV]
        | true => simp only [Bool.not_true, if_true, Bool.false_eq_true, if_false, roundV]
  · have g0 : ¬ op = 0 := by rintro rfl; exact absurd h (by decide)
    have g1 : ¬ op = 1 := by rintro rfl; exact absurd h (by decide)
    have b0 : (op == 0) = false := by simpa using g0
    have b1 : (op == 1) = false := by simpa using g1
    rw [if_neg g0, if_neg g1, if_neg (by omega), if_pos h]
    rw [h] at ht
    match s, hs, hok with
    | [], _, _ =>
      simp only [↓reduceIte, rd_expr_Eval_7_6, rt_test, rt_next, rt_stop, hel, ln_map, inR_cast, Int.ofNat_lt, hi, decide_true, if_true, c0, ht, ok_some', out_some, uI_0, beq_self_eq_true, show decide ((2 : Int) > 0) = true from rfl, show decide ((2 : Int) > 1) = true from rfl, show ln (sv []) = 0 from rfl, Bool.false_eq_true, if_false, eb, roundV]
    | [b], hs, _ =>
      have e1 : ln (sv [b]) = 1 := by rw [sv_ln]; rfl
      have e2 : ((1 : Int) == 0) = false := rfl
      have e3 : inR (w64 (1 - 1)) 1 = true := rfl
      have e4 : decide (Int.toNat (w64 (1 - 1)) < (sv [b]).length) = true := rfl
      have e5 : decide ((0 : Int) ≤ 0 ∧ (0 : Int) ≤ w64 (1 - 1) ∧ w64 (1 - 1) ≤ 1) = true := rfl
      have e6 : decide (0 + (Int.toNat (w64 (1 - 1)) - 0) ≤ (sv [b]).length) = true := rfl
      have e7 : ((((Int.toNat (w64 (1 - 1)) - 0 : Nat) : Int)) == 0) = true := rfl
      simp only [↓reduceIte, rd_expr_Eval_7_6, rt_test, rt_next, rt_stop, hel, ln_map, inR_cast, Int.ofNat_lt, hi, decide_true, if_true, c0, ht, ok_some', out_some, uI_0, beq_self_eq_true, e1, e2, e3, e4, e5, e6, e7, show decide ((2 : Int) > 0) = true from rfl, show decide ((2 : Int) > 1) = true from rfl, Bool.false_eq_true, if_false, eb, roundV]
    | b :: a :: s, hs, hok =>
      have hs' : s.length + 1 + 1 ≤ i := by simpa using hs
      have hb : b.ok := hok b (List.mem_cons_self ..)
      have ha : a.ok := hok a (List.mem_cons_of_mem _ (List.mem_cons_self ..))
      have hv := leaves2 op a.k b.k h
      have hd := do_res op a b ha hb (.inr h)
      have e1 : ln (sv (b :: a :: s)) = ((s.length + 1 + 1 : Nat) : Int) := by rw [sv_ln]; rfl
      have e2 : (((s.length + 1 + 1 : Nat) : Int) == 0) = false := by rw [beq_eq_false_iff_ne]; omega
      have e2' : (((s.length + 1 : Nat) : Int) == 0) = false := by rw [beq_eq_false_iff_ne]; omega
      have e3 : inR ((s.length + 1 : Nat) : Int) ((s.length + 1 + 1 : Nat) : Int) = true := inR_iff.2 ⟨by omega, by omega⟩
      have hL : (sv (b :: a :: s)).length = s.length + 1 + 1 := by rw [sv_len]; rfl
      have e4 : decide (s.length + 1 < (sv (b :: a :: s)).length) = true := by rw [decide_eq_true_eq, hL]; omega
      have e5 : decide ((0 : Int) ≤ 0 ∧ (0 : Int) ≤ ((s.length + 1 : Nat) : Int) ∧ ((s.length + 1 : Nat) : Int) ≤ ((s.length + 1 + 1 : Nat) : Int)) = true := by rw [decide_eq_true_eq]; omega
      have e6 : decide (0 + (s.length + 1) ≤ (sv (b :: a :: s)).length) = true := by rw [decide_eq_true_eq, hL]; omega
      have e7 : decide ((0 : Int) ≤ ((s.length : Nat) : Int) ∧ ((s.length : Nat) : Int) < ((s.length + 1 : Nat) : Int) ∧ 0 + s.length < (sv (b :: a :: s)).length) = true := by rw [decide_eq_true_eq, hL]; omega
      have e8 : decide (0 + s.length < (sv (b :: a :: s)).length) = true := by rw [decide_eq_true_eq, hL]; omega
      have e9 : decide ((0 : Int) ≤ 0 ∧ (0 : Int) ≤ ((s.length : Nat) : Int) ∧ ((s.length : Nat) : Int) ≤ ((s.length + 1 : Nat) : Int)) = true := by rw [decide_eq_true_eq]; omega
      have e10 : decide (0 + s.length ≤ (sv (b :: a :: s)).length) = true := by rw [decide_eq_true_eq, hL]; omega
      have f7 : decide ((0 : Int) ≤ w64 (2 - 2) ∧ w64 (2 - 2) ≤ 2 ∧ (2 : Int) ≤ 2) = true := rfl
      have f8 : decide (Int.toNat (w64 (2 - 2)) + (2 - Int.toNat (w64 (2 - 2))) ≤ 2) = true := rfl
      have f9 : List.take (2 - Int.toNat (w64 (2 - 2))) (List.drop (Int.toNat (w64 (2 - 2))) [[pI a.k], [pI b.k]]) = [kN a.k, kN b.k] := rfl
      have tp : el (sv (b :: a :: s)) ((s.length + 1 : Nat) : Int) = Val.e b := sv_top b (a :: s)
      have w1 : w64 (((s.length + 1 + 1 : Nat) : Int) - 1) = ((s.length + 1 : Nat) : Int) := sub_one (n := s.length + 1) (by omega)
      have w2 : w64 (((s.length + 1 : Nat) : Int) - 1) = ((s.length : Nat) : Int) := sub_one (n := s.length) (by omega)
      simp only [↓reduceIte, rd_expr_Eval_7_6, rt_test, rt_next, rt_stop, hel, ln_map, inR_cast, Int.ofNat_lt, hi, decide_true, if_true, c0, c1, c2, c3, c4, ht, b0, b1, e1, e2, e2', e3, e4, e5, e6, e7, e8, e9, e10, f7, f8, w1, w2, tp, Nat.zero_add, sv_at, Int.toNat_natCast, Nat.sub_zero, sv_pop2, v0, v1, v2, f9, hv, eb, hd, ru, ok_some', out_some, uI_0, uI_s, uB_0, uB_s, uS_0, uS_s, beq_self_eq_true, Bool.not_true, Bool.false_eq_true, if_false, show decide ((2 : Int) > 0) = true from rfl, show decide ((2 : Int) > 1) = true from rfl, show decide ((2 : Int) < 0) = false from rfl, hlen s (by omega), sv_push, w64_succ (i := i) (by omega)]
      have e7' : decide ((0 : Int) ≤ ((s.length : Nat) : Int) ∧ s.length < s.length + 1 ∧ s.length < (sv (b :: a :: s)).length) = true := by rw [decide_eq_true_eq, hL]; omega
      simp only [Nat.zero_add] at e6 e8 e10
      simp only [e7', e6, e8, e10, if_true]
      unfold appV
      cases (lv op a.k b.k).2 with
      | false => simp only [Bool.not_false, if_true, Bool.false_eq_true, if_false, roundV]
      | true =>
        cases (do2 op a b).2 with
        | false => simp only [Bool.not_false, Bool.not_true, if_true, Bool.false_eq_true, if_false, roundV]
        | true => simp only [Bool.not_true, if_true, Bool.false_eq_true, if_false, roundV]

theorem eval_loop (e : List Nd) (hl : e.length ≤ 100) (he : ∀ d ∈ e, d.ok) (row : List Val) (hrow : okR row) : ∀ m i (s : List Val), e.length - i = m → i ≤ e.length → s.length ≤ i → okSt s →
    lres rd_expr_Eval_7_6 [.l (e.map Nd.e), .i (e.length : Nat), .i (i : Nat), .i 0, .i 0, .s (bs []), .b true, .l (re row), .l (sv s)] =
      match runV row (e.drop i) s with
      | .error f => some (0, [.i f, .i 0, .i 0, .s (bs [])])
      | .ok s' => some (1, [.i 0, .i 0, .s (bs []), .b true, .l (re row), .l (sv s')]) := by
  intro m
  induction m with
  | zero =>
    intro i s h1 h2 h3 h4
    have : i = e.length := by omega
    subst this
    rw [List.drop_length, runV]
    refine lres_stop ?_
    simp [rd_expr_Eval_7_6]
  | succ m ih =>
    intro i s h1 h2 h3 h4
    have h : i < e.length := by omega
    have hr := eval_round e hl row hrow i h (he _ (List.getElem_mem h)) s h3 h4
    rw [List.drop_eq_getElem_cons h, runV]
    cases hs : stepV row s e[i] with
    | error f =>
      rw [hs] at hr
      exact lres_stop hr
    | ok s1 =>
      rw [hs] at hr
      obtain ⟨k1, k2⟩ := stepV_len hs
      rw [lres_next hr]
      exact ih (i + 1) s1 (by omega) (by omega) (by omega) (k2 hrow.2 (he _ (List.getElem_mem h)) h4)

theorem Eval_res (e : List Nd) (he : ∀ d ∈ e, d.ok) (row : List Val) (hrow : okR row) : (m_expr_Eval [.l (e.map Nd.e), .l (re row)]).res = some (0, [.i (evalV e row).1.k, .i (evalV e row).1.n, .s (bs (evalV e row).1.s), .i (evalV e row).2]) := by
  unfold evalV
  have eb : ({ data := #[] } : ByteArray) = bs [] := rfl
  by_cases hl : e.length > 100
  · have : ((e.length : Nat) : Int) > 100 := by omega
    rw [if_pos hl]
    simp only [m_expr_Eval, ln_map, res_test, res_stop, this, decide_true, if_true, nul, eb]
  · have h1 : ¬ ((e.length : Nat) : Int) > 100 := by omega
    have h := eval_loop e (by omega) he row hrow e.length 0 [] (by omega) (by omega) (by simp) (fun v hv => by cases hv)
    simp only [List.drop_zero, Int.natCast_zero, show sv [] = [] from rfl] at h
    rw [if_neg hl]
    match hr : runV row e [] with
    | .error f =>
      rw [hr] at h
      simp only [m_expr_Eval, ln_map, res_test, res_stop, h1, decide_false, Bool.false_eq_true, if_false, eb, h, ok_some', out_some, beq_self_eq_true, if_true, uI_0, uI_s, uS_0, uS_s, lastV, nul]
    | .ok [] =>
      rw [hr] at h
      simp only [m_expr_Eval, ln_map, res_test, res_stop, h1, decide_false, Bool.false_eq_true, if_false, eb, h, ok_some', out_some, beq_self_eq_true, if_true, uI_0, uI_s, uB_0, uB_s, uL_0, uL_s, show ((0 : Nat) == 1) = false from rfl, Bool.not_true, show (ln (sv []) != 1) = true from rfl, lastV, nul]
    | .ok [x] =>
      rw [hr] at h
      have g1 : (ln (sv [x]) != 1) = false := rfl
      have g2 : inR 0 (ln (sv [x])) = true := rfl
      have g3 : decide (0 < (sv [x]).length) = true := rfl
      have g4 : List.getD (sv [x]) 0 [] = Val.e x := rfl
      simp only [m_expr_Eval, ln_map, res_test, res_stop, h1, decide_false, Bool.false_eq_true, if_false, eb, h, ok_some', out_some, beq_self_eq_true, if_true, uI_0, uI_s, uB_0, uB_s, uL_0, uL_s, show ((0 : Nat) == 1) = false from rfl, Bool.not_true, g1, g2, g3, g4, lastV]
      rfl
    | .ok (x :: y :: s) =>
      rw [hr] at h
      have g1 : (ln (sv (x :: y :: s)) != 1) = true := by rw [sv_ln, bne_iff_ne]; simp; omega
      simp only [m_expr_Eval, ln_map, res_test, res_stop, h1, decide_false, Bool.false_eq_true, if_false, eb, h, ok_some', out_some, beq_self_eq_true, if_true, uI_0, uI_s, uB_0, uB_s, uL_0, uL_s, show ((0 : Nat) == 1) = false from rfl, Bool.not_true, g1, lastV, nul]

theorem True_res (e : List Nd) (he : ∀ d ∈ e, d.ok) (row : List Val) (hrow : okR row) : (m_expr_True [.l (e.map Nd.e), .l (re row)]).res = some (0, [.b (trueV e row).1, .i (trueV e row).2]) := by
  unfold trueV
  have h := Eval_res e he row hrow
  by_cases e0 : e.length = 0
  · have : (((e.length : Nat) : Int) == 0) = true := by rw [beq_iff_eq]; omega
    rw [if_pos e0]
    simp only [m_expr_True, ln_map, res_test, res_stop, this, if_true]
  · have : (((e.length : Nat) : Int) == 0) = false := by rw [beq_eq_false_iff_ne]; omega
    rw [if_neg e0]
    simp only [m_expr_True, ln_map, res_test, res_stop, this, Bool.false_eq_true, if_false, h, ok_some', out_some, beq_self_eq_true, if_true, uI_0, uI_s, uS_0, uS_s, bs_toList]
    generalize (evalV e row).1 = v
    generalize (evalV e row).2 = f
    by_cases f0 : f = 0
    · subst f0
      have := eqV_c v 1 1 []
      simp only [beq_self_eq_true, if_true, this, true_and]
      rfl
    · have hf : (f == 0) = false := by simpa using f0
      simp only [hf, Bool.false_eq_true, if_false, f0, false_and, decide_false]

end Go.Proofs.YthmljoalohpafaaGreatDoor

set_option linter.unusedVariables false
set_option linter.unusedSimpArgs false
set_option linter.constructorNameAsVariable false
namespace Go.Proofs.YthmljoalohpafaaGreatDoor
open Go Go.Pu

theorem law_of_row {P : Program} {X : Ext} {M : FuncId → Bool} {L : FuncId → Nat → Option (List Nat)} {f : FuncId} {S : FSp} {m : List U → Rt} {xs : List PV} {us : List U} (hX : X f = some (gF S m)) (hd : decs S.ap (nrms S.ap xs) = some us)
    (ha : S.ah = []) (ho : S.outs = [([.one .b], [])]) (hr : (m us).res = some (0, [.b true])) : ∃ n hc, call P X M L n f xs [] = some (.bool true, hc) := by
  refine ⟨1, [], ?_⟩
  simp only [call, hX, gF, gW, hd, ha, decH, fU_eq, List.append_nil, ho, outsTr, Tr.val, hr, ok_some', out_some, beq_self_eq_true, if_true]
  rfl

set_option maxRecDepth 100000 in
theorem arg_sl {t e : TypeId} {x : PV} (hu : kdOf Tryz.prog t = .sl e) (h1 : ArgGd Tryz.prog t x = Gd Tryz.prog (kdOf Tryz.prog t) x) (h : ArgGd Tryz.prog t x) : Gd Tryz.prog (.sl e) x := by
  rw [h1, hu] at h; exact h

set_option maxRecDepth 100000 in
theorem arg_int {x : PV} (h : ArgGd Tryz.prog 3 x) : ∃ n, x = pI n ∧ i64 n := by
  have e : ArgGd Tryz.prog 3 x = Gd Tryz.prog (.int .i64) x := by kernel_rfl
  rw [e] at h
  exact gd_int h

set_option maxRecDepth 100000 in
theorem arg_val {x : PV} (h : ArgGd Tryz.prog 31 x) : ∃ v : Val, x = .agg v.e ∧ v.ok := by
  have e : ArgGd Tryz.prog 31 x = ∃ xs, x = .agg xs ∧ Gds Tryz.prog [.int .i64, .int .i64, .str] xs := by kernel_rfl
  rw [e] at h
  obtain ⟨xs, rfl, hg⟩ := h
  obtain ⟨hl, hg⟩ := gds_cells hg
  match xs, hl, hg with
  | [a, b, c], _, hg =>
    obtain ⟨v, rfl, rfl, rfl, hv⟩ := val_cells (hg 0 (by decide)) (hg 1 (by decide)) (hg 2 (by decide))
    exact ⟨v, rfl, hv⟩

set_option maxRecDepth 100000 in
theorem arg_vals {x : PV} (h : ArgGd Tryz.prog 24 x) : ∃ l : List Val, x = .lst 31 (re l) ∧ okR l := by
  have e : ArgGd Tryz.prog 24 x = Gd Tryz.prog (.sl 31) x := by kernel_rfl
  rw [e] at h
  exact gd_row h

set_option maxRecDepth 100000 in
theorem arg_bool {x : PV} (h : ArgGd Tryz.prog 4 x) : ∃ b, x = pB b := by
  have e : ArgGd Tryz.prog 4 x = Gd Tryz.prog .bool x := by kernel_rfl
  rw [e] at h
  cases h with
  | bool b => exact ⟨b, rfl⟩

end Go.Proofs.YthmljoalohpafaaGreatDoor

set_option linter.unusedVariables false
set_option linter.unusedSimpArgs false
namespace Go.Proofs.YthmljoalohpafaaGreatDoor
open Go Go.Pu

def bigE (e : List Nd) : Bool := !(e.all fun d => decide (d.v.s.length ≤ 1000)) || decide (e.length > 120)
theorem Big_res (e : List Nd) (h0 : e.length ≤ 140737488355328) : (m_R03_Big [.l (e.map Nd.e)]).res = some (0, [.b (bigE e)]) := by
  have h := loop_all' e (rd := rd_R03_Big_6_2) (fun i => [.l (e.map Nd.e), .i (i : Nat)]) (fun d => decide (d.v.s.length ≤ 1000)) 0 1 [.b true] [.l (e.map Nd.e)] (by simp [rd_R03_Big_6_2]) (by
    intro i h
    have c4 : cS (Nd.e e[i]) 4 = bs e[i].v.s := rfl
    by_cases c : e[i].v.s.length ≤ 1000
    · have c2 : ¬ ((e[i].v.s.length : Nat) : Int) > 1000 := by omega
      simp only [rd_R03_Big_6_2, rt_test, rt_next, rt_stop, el_map _ _ h, ln_map, inR_cast, Int.ofNat_lt, h, decide_true, if_true, c4, bs_size, c, c2, decide_false, Bool.false_eq_true, if_false, w64_succ (i := i) (by omega)]
    · have c2 : ((e[i].v.s.length : Nat) : Int) > 1000 := by omega
      simp only [rd_R03_Big_6_2, rt_test, rt_next, rt_stop, el_map _ _ h, ln_map, inR_cast, Int.ofNat_lt, h, decide_true, if_true, c4, bs_size, c, c2, decide_false, Bool.false_eq_true, if_false])
  simp only [Int.natCast_zero] at h
  unfold bigE
  by_cases c : (e.all fun d => decide (d.v.s.length ≤ 1000)) = true
  · rw [if_pos c] at h
    have e1 : decide (((e.length : Nat) : Int) > 120) = decide (e.length > 120) := by rw [decide_eq_decide]; omega
    simp only [m_R03_Big, h, ok_some', out_some, res_test, res_stop, beq_self_eq_true, if_true, uL_0, ln_map, show ((0 : Nat) == 1) = false from rfl, Bool.false_eq_true, if_false, e1, c, Bool.not_true, Bool.false_or]
  · rw [if_neg c] at h
    rw [Bool.not_eq_true] at c
    simp only [m_R03_Big, h, ok_some', out_some, res_test, res_stop, beq_self_eq_true, if_true, uB_0, c, Bool.not_false, Bool.true_or]
theorem bigE_len {e : List Nd} (h : bigE e = false) : e.length ≤ 120 := by
  unfold bigE at h
  rw [Bool.or_eq_false_iff, decide_eq_false_iff_not] at h
  omega

def fitAt3 (row : List Val) (cols : List Int) (i : Nat) : Bool := decide ((row.getD i nul).k = 0) || decide ((row.getD i nul).k = cols.getD i 0)
theorem nil_test (v : Val) (h : v = nul) : (v.k == 0 && (v.n == 0 && (v.s == [] && true))) = true := by subst h; rfl

/-! what they are handed -/

theorem gd_listC {α : Type} {t : TypeId} {ks : List Kd} {b : Nat} {f : α → List PV} {p : α → Prop} (hk : kds Tryz.prog t = ks) (hb : Tryz.prog.bytesOf t = b) (hb1 : 1 ≤ b)
    (hc : ∀ e, Gds Tryz.prog ks e → ∃ a, e = f a ∧ p a) {x : PV} (h : Gd Tryz.prog (.sl t) x) : ∃ l : List α, x = .lst t (l.map f) ∧ l.length ≤ 140737488355328 ∧ ∀ a ∈ l, p a := by
  obtain ⟨es, rfl, h1, h2⟩ := gd_lst h
  rw [hk] at h2
  rw [hb] at h1
  obtain ⟨l, rfl, hl⟩ := lst_map fun e he => hc e (h2 e he)
  refine ⟨l, rfl, ?_, hl⟩
  rw [List.length_map] at h1
  have : l.length * 1 ≤ l.length * b := Nat.mul_le_mul_left _ hb1
  unfold big at h1
  omega

theorem gd_nodes {x : PV} (h : Gd Tryz.prog (.sl 36) x) : ∃ e : List Nd, x = .lst 36 (e.map Nd.e) ∧ e.length ≤ 140737488355328 ∧ ∀ d ∈ e, d.ok :=
  gd_listC (f := Nd.e) (p := Nd.ok) (ks := [.int .i64, .int .i64, .int .i64, .int .i64, .str]) (b := 48) (by kernel_rfl) (by kernel_rfl) (by decide) (fun e he => by
    obtain ⟨hl, hg⟩ := gds_cells he
    match e, hl, hg with
    | [a, b, c, d, f], _, hg =>
      obtain ⟨op, rfl, h1⟩ := gd_int (hg 0 (by decide))
      obtain ⟨n, rfl, h2⟩ := gd_int (hg 1 (by decide))
      obtain ⟨v, rfl, rfl, rfl, hv⟩ := val_cells (hg 2 (by decide)) (hg 3 (by decide)) (hg 4 (by decide))
      exact ⟨⟨op, n, v⟩, rfl, h1, h2, hv⟩) h

set_option maxRecDepth 100000 in
theorem arg_expr {x : PV} (h : ArgGd Tryz.prog 23 x) : ∃ e : List Nd, x = .lst 36 (e.map Nd.e) ∧ e.length ≤ 140737488355328 ∧ ∀ d ∈ e, d.ok := by
  have e : ArgGd Tryz.prog 23 x = Gd Tryz.prog (.sl 36) x := by kernel_rfl
  rw [e] at h
  exact gd_nodes h

set_option maxRecDepth 100000 in
theorem arg_kinds {x : PV} (h : ArgGd Tryz.prog 58 x) : ∃ l : List Int, x = .lst 3 (l.map kN) ∧ l.length ≤ 140737488355328 := by
  have e : ArgGd Tryz.prog 58 x = Gd Tryz.prog (.sl 3) x := by kernel_rfl
  rw [e] at h
  obtain ⟨l, e, h1, _⟩ := gd_listC (f := kN) (p := fun _ => True) (ks := [.int .i64]) (b := 8) (by kernel_rfl) (by kernel_rfl) (by decide) (fun e he => by
    obtain ⟨hl, hg⟩ := gds_cells he
    match e, hl, hg with
    | [a], _, hg =>
      obtain ⟨n, rfl, hn⟩ := gd_int (hg 0 (by decide))
      exact ⟨n, rfl, trivial⟩) h
  exact ⟨l, e, h1⟩

set_option maxRecDepth 100000 in
theorem arg_rowE {x : PV} (h : ArgGd Tryz.prog 25 x) : ∃ r : List Val, x = .lst 31 (re r) ∧ okR r := by
  have e : ArgGd Tryz.prog 25 x = Gd Tryz.prog (.sl 31) x := by kernel_rfl
  rw [e] at h
  exact gd_row h

end Go.Proofs.YthmljoalohpafaaGreatDoor

set_option linter.unusedVariables false
set_option linter.unusedSimpArgs false
namespace Go.Proofs.YthmljoalohpafaaGreatDoor
open Go Go.Pu

theorem arith_int (f : Int → Int → Int) (a b : Int) : arith f (intV a) (intV b) = if in64 (f a b) then (intV (f a b), true) else (nul, false) := by
  unfold arith intV; simp
theorem intV_ok {a : Int} (h : i64 a) : (intV a).ok := ⟨by simp [intV, i64], h, by simp [intV]⟩
theorem nul_ok : nul.ok := ⟨by simp [nul, i64], by simp [nul, i64], by simp [nul]⟩
theorem i64_of {n : Int} (h : in64 n = true) : i64 n := by unfold i64; unfold in64 at h; exact of_decide_eq_true h

theorem Add_int (a b : Int) (ha : i64 a) (hb : i64 b) : (m_value_Add [.i 2, .i a, .s (bs []), .i 2, .i b, .s (bs [])]).res = some (0, ru (addV (intV a) (intV b))) := Add_res (intV a) (intV b) (intV_ok ha) (intV_ok hb)
theorem Sub_int (a b : Int) (ha : i64 a) (hb : i64 b) : (m_value_Sub [.i 2, .i a, .s (bs []), .i 2, .i b, .s (bs [])]).res = some (0, ru (subV (intV a) (intV b))) := Sub_res (intV a) (intV b) (intV_ok ha) (intV_ok hb)
theorem Mul_int (a b : Int) (ha : i64 a) (hb : i64 b) : (m_value_Mul [.i 2, .i a, .s (bs []), .i 2, .i b, .s (bs [])]).res = some (0, ru (mulV (intV a) (intV b))) := Mul_res (intV a) (intV b) (intV_ok ha) (intV_ok hb)

end Go.Proofs.YthmljoalohpafaaGreatDoor

set_option linter.unusedVariables false
set_option linter.unusedSimpArgs false
namespace Go.Proofs.YthmljoalohpafaaGreatDoor
open Go Go.Pu

theorem RAnd_res (l : List Val) (hl : l.length ≤ 4398046511104) : (m_R01_And [.l (re l)]).res = some (0, (foldV false l).u) := by
  have key : ∀ n i, i + n = l.length → ∀ b : Bool, (∀ j (h : j < l.length), j < i → l[j] ≠ tru false) → (b = true ↔ ∀ j (h : j < l.length), j < i → l[j] = tru true) →
      (m_R01_And [.l (re l)]).res = some (0, (foldV false l).u) ∨ lres rd_R01_And_71_3 [.l (re l), .b b, .i (i : Nat), .i 0, .i 0, .s (bs [])] = (if tru false ∈ l then some (0, (tru false).u) else some (1, [.b (decide (∀ x ∈ l, x = tru true)), .i 0, .i 0, .s (bs [])])) := by
    intro n
    induction n with
    | zero =>
      intro i hi b h1 h2
      right
      have hi : i = l.length := by omega
      subst hi
      have hn : tru false ∉ l := fun hm => by
        obtain ⟨j, hj, e⟩ := List.mem_iff_getElem.1 hm
        exact h1 j hj hj e
      have hb : b = decide (∀ x ∈ l, x = tru true) := by
        rw [Bool.eq_iff_iff, h2, decide_eq_true_eq]
        constructor
        · intro h x hx
          obtain ⟨j, hj, rfl⟩ := List.mem_iff_getElem.1 hx
          exact h j hj hj
        · intro h j hj _
          exact h _ (List.getElem_mem hj)
      rw [if_neg hn, ← hb]
      refine lres_stop ?_
      simp [rd_R01_And_71_3, re]
    | succ n ih =>
      intro i hi b h1 h2
      have h : i < l.length := by omega
      have rd : (rd_R01_And_71_3 [.l (re l), .b b, .i (i : Nat), .i 0, .i 0, .s (bs [])]).val = if l[i] = tru false then some (.stop 0 (tru false).u) else some (.next [.l (re l), .b (b && decide (l[i] = tru true)), .i ((i + 1 : Nat) : Int), .i 0, .i 0, .s (bs [])]) := by
        simp only [rd_R01_And_71_3, re, el_map _ _ h, rt_test, rt_stop, rt_next, ln_map, Val.e, cI_p, cI_s, cS_s, cS_p, bs_toList, inR_cast, eqV_c, eta, w64_succ (i := i) (by omega), Int.ofNat_lt, h, decide_true, if_true, bs_nil, decide_eq_true_eq]
        rw [show (⟨1, 0, []⟩ : Val) = tru false from rfl, show (⟨1, 1, []⟩ : Val) = tru true from rfl]
        by_cases e : l[i] = tru false
        · simp [e, tru, Val.u]
        · simp only [e, if_false]
          cases b <;> simp
      by_cases e : l[i] = tru false
      · right
        rw [if_pos e] at rd
        rw [lres_stop rd, if_pos (by rw [← e]; exact List.getElem_mem h)]
      · rw [if_neg e] at rd
        rcases ih (i + 1) (by omega) (b && decide (l[i] = tru true)) (fun j hj hji => by
          by_cases ej : j = i
          · subst ej; exact e
          · exact h1 j hj (by omega)) (by
          rw [Bool.and_eq_true, h2, decide_eq_true_eq]
          constructor
          · rintro ⟨g1, g2⟩ j hj hji
            by_cases ej : j = i
            · subst ej; exact g2
            · exact g1 j hj (by omega)
          · intro g
            exact ⟨fun j hj hji => g j hj (by omega), g i h (by omega)⟩) with h3 | h3
        · exact .inl h3
        · right
          rw [lres_next rd, h3]
  rcases key l.length 0 (by omega) true (fun j _ h => by omega) (by simp) with h | h
  · exact h
  · simp only [Int.natCast_zero, bs_nil] at h
    by_cases e : tru false ∈ l
    · rw [if_pos e] at h
      have f1 : foldV false l = tru false := by unfold foldV; rw [if_pos e]
      rw [f1]
      simp only [m_R01_And, bs_nil, h, ok_some', out_some, res_test, res_stop, beq_self_eq_true, if_true, Val.u, uI_0, uI_s, uS_s, uS_0]
    · rw [if_neg e] at h
      by_cases e2 : ∀ x ∈ l, x = tru true
      · have f1 : foldV false l = tru true := by unfold foldV; rw [if_neg e]; exact if_pos e2
        rw [f1]
        simp only [m_R01_And, bs_nil, h, ok_some', out_some, res_test, res_stop, show ((0 : Nat) == 1) = false from rfl, Bool.false_eq_true, if_false, beq_self_eq_true, if_true, uB_0, decide_eq_true e2]
        rfl
      · have f1 : foldV false l = nul := by unfold foldV; rw [if_neg e]; exact if_neg e2
        rw [f1]
        simp only [m_R01_And, bs_nil, h, ok_some', out_some, res_test, res_stop, show ((0 : Nat) == 1) = false from rfl, Bool.false_eq_true, if_false, beq_self_eq_true, if_true, uB_0, decide_eq_false e2]
        rfl

theorem ROr_res (l : List Val) (hl : l.length ≤ 4398046511104) : (m_R01_Or [.l (re l)]).res = some (0, (foldV true l).u) := by
  have key : ∀ n i, i + n = l.length → ∀ b : Bool, (∀ j (h : j < l.length), j < i → l[j] ≠ tru true) → (b = true ↔ ∀ j (h : j < l.length), j < i → l[j] = tru false) →
      lres rd_R01_Or_72_3 [.l (re l), .b b, .i (i : Nat), .i 0, .i 0, .s (bs [])] = (if tru true ∈ l then some (0, (tru true).u) else some (1, [.b (decide (∀ x ∈ l, x = tru false)), .i 0, .i 0, .s (bs [])])) := by
    intro n
    induction n with
    | zero =>
      intro i hi b h1 h2
      have hi : i = l.length := by omega
      subst hi
      have hn : tru true ∉ l := fun hm => by
        obtain ⟨j, hj, e⟩ := List.mem_iff_getElem.1 hm
        exact h1 j hj hj e
      have hb : b = decide (∀ x ∈ l, x = tru false) := by
        rw [Bool.eq_iff_iff, h2, decide_eq_true_eq]
        constructor
        · intro h x hx
          obtain ⟨j, hj, rfl⟩ := List.mem_iff_getElem.1 hx
          exact h j hj hj
        · intro h j hj _
          exact h _ (List.getElem_mem hj)
      rw [if_neg hn, ← hb]
      refine lres_stop ?_
      simp [rd_R01_Or_72_3, re]
    | succ n ih =>
      intro i hi b h1 h2
      have h : i < l.length := by omega
      have rd : (rd_R01_Or_72_3 [.l (re l), .b b, .i (i : Nat), .i 0, .i 0, .s (bs [])]).val = if l[i] = tru true then some (.stop 0 (tru true).u) else some (.next [.l (re l), .b (b && decide (l[i] = tru false)), .i ((i + 1 : Nat) : Int), .i 0, .i 0, .s (bs [])]) := by
        simp only [rd_R01_Or_72_3, re, el_map _ _ h, rt_test, rt_stop, rt_next, ln_map, Val.e, cI_p, cI_s, cS_s, cS_p, bs_toList, inR_cast, eqV_c, eta, w64_succ (i := i) (by omega), Int.ofNat_lt, h, decide_true, if_true, bs_nil, decide_eq_true_eq]
        rw [show (⟨1, 0, []⟩ : Val) = tru false from rfl, show (⟨1, 1, []⟩ : Val) = tru true from rfl]
        by_cases e : l[i] = tru true
        · simp [e, tru, Val.u]
        · simp only [e, if_false]
          cases b <;> simp
      by_cases e : l[i] = tru true
      · rw [if_pos e] at rd
        rw [lres_stop rd, if_pos (by rw [← e]; exact List.getElem_mem h)]
      · rw [if_neg e] at rd
        rw [lres_next rd]
        exact ih (i + 1) (by omega) (b && decide (l[i] = tru false)) (fun j hj hji => by
          by_cases ej : j = i
          · subst ej; exact e
          · exact h1 j hj (by omega)) (by
          rw [Bool.and_eq_true, h2, decide_eq_true_eq]
          constructor
          · rintro ⟨g1, g2⟩ j hj hji
            by_cases ej : j = i
            · subst ej; exact g2
            · exact g1 j hj (by omega)
          · intro g
            exact ⟨fun j hj hji => g j hj (by omega), g i h (by omega)⟩)
  have h := key l.length 0 (by omega) true (fun j _ h => by omega) (by simp)
  simp only [Int.natCast_zero, bs_nil] at h
  by_cases e : tru true ∈ l
  · rw [if_pos e] at h
    have f1 : foldV true l = tru true := by unfold foldV; rw [if_pos e]
    rw [f1]
    simp only [m_R01_Or, bs_nil, h, ok_some', out_some, res_test, res_stop, beq_self_eq_true, if_true, Val.u, uI_0, uI_s, uS_s, uS_0]
  · rw [if_neg e] at h
    by_cases e2 : ∀ x ∈ l, x = tru false
    · have f1 : foldV true l = tru false := by unfold foldV; rw [if_neg e]; exact if_pos e2
      rw [f1]
      simp only [m_R01_Or, bs_nil, h, ok_some', out_some, res_test, res_stop, show ((0 : Nat) == 1) = false from rfl, Bool.false_eq_true, if_false, beq_self_eq_true, if_true, uB_0, decide_eq_true e2]
      rfl
    · have f1 : foldV true l = nul := by unfold foldV; rw [if_neg e]; exact if_neg e2
      rw [f1]
      simp only [m_R01_Or, bs_nil, h, ok_some', out_some, res_test, res_stop, show ((0 : Nat) == 1) = false from rfl, Bool.false_eq_true, if_false, beq_self_eq_true, if_true, uB_0, decide_eq_false e2]
      rfl

end Go.Proofs.YthmljoalohpafaaGreatDoor

set_option linter.unusedVariables false
set_option linter.unusedSimpArgs false
namespace Go.Proofs.YthmljoalohpafaaGreatDoor
open Go Go.Pu

theorem R03_Takes_res (op : Int) : (m_R03_Takes [.i op]).res = some (0, [.i (tk op)]) := by
  simp only [m_R03_Takes, res_test, res_stop, beq_iff_eq, decide_eq_true_eq, tk]
  (repeat' split) <;> first | rfl | (exfalso; omega)

theorem kOk_test (k a b : Int) : ((if (a == k) = true then (if (b == k) = true then some (0, [U.i k, U.b true]) else some (0, [U.i k, U.b (b == 0)])) else if (a == 0) = true then (if (b == k) = true then some (0, [U.i k, U.b true]) else some (0, [U.i k, U.b (b == 0)])) else some (0, [U.i k, U.b false])) : Rs) = some (0, [.i k, .b (kOk k a && kOk k b)]) := by
  have e : kOk k b = if (b == k) = true then true else (b == 0) := by
    unfold kOk
    by_cases h : b = k
    · simp [h]
    · simp [h]; rfl
  by_cases h1 : a = k
  · have : kOk k a = true := by unfold kOk; simp [h1]
    rw [this, Bool.true_and, e]
    simp [h1]
    by_cases h2 : b = k <;> simp [h2]
  · by_cases h2 : a = 0
    · have : kOk k a = true := by unfold kOk; simp [h2]
      rw [this, Bool.true_and, e]
      simp [h1, h2]
      by_cases h3 : b = k <;> by_cases h4 : (0 : Int) = k <;> simp [h3, h4]
    · have : kOk k a = false := by unfold kOk; simp [h1, h2]
      rw [this, Bool.false_and]
      simp [h1, h2]

theorem R03_Leaves_res (op a b : Int) (h : tk op = 1 ∨ tk op = 2) : (m_R03_Leaves [.i op, .i a, .i b]).res = some (0, [.i (lv op a b).1, .b (lv op a b).2]) := by
  have hop : op = 2 ∨ op = 3 ∨ op = 4 ∨ op = 5 ∨ op = 6 ∨ op = 7 ∨ op = 8 ∨ op = 9 ∨ op = 10 := by
    rcases h with h | h
    · have := tk_1 h; omega
    · have := tk_2 h; omega
  have e1 : ((if (a == b) = true then some (0, [U.i 1, U.b true]) else if (a == 0) = true then some (0, [U.i 1, U.b true]) else some (0, [U.i 1, U.b (b == 0)])) : Rs) = some (0, [.i 1, .b (decide (a = b ∨ a = 0 ∨ b = 0))]) := by
    by_cases x1 : a = b
    · simp [x1]
    · by_cases x2 : a = 0
      · simp [x1, x2]
      · simp [x1, x2]; rfl
  have e2 : ((if (b == 1) = true then some (0, [U.i 1, U.b true]) else some (0, [U.i 1, U.b (b == 0)])) : Rs) = some (0, [.i 1, .b (kOk 1 b)]) := by
    unfold kOk
    by_cases x1 : b = 1
    · simp [x1]
    · simp [x1]; rfl
  rcases hop with rfl | rfl | rfl | rfl | rfl | rfl | rfl | rfl | rfl
  · simp only [m_R03_Leaves, res_test, res_stop, kOk_test]; rfl
  · simp only [m_R03_Leaves, res_test, res_stop, kOk_test]; rfl
  · simp only [m_R03_Leaves, res_test, res_stop, kOk_test]; rfl
  · simp only [m_R03_Leaves, res_test, res_stop, e1]; rfl
  · simp only [m_R03_Leaves, res_test, res_stop, e1]; rfl
  · simp only [m_R03_Leaves, res_test, res_stop, kOk_test]; rfl
  · simp only [m_R03_Leaves, res_test, res_stop, kOk_test]; rfl
  · simp only [m_R03_Leaves, res_test, res_stop, e2]; rfl
  · simp only [m_R03_Leaves, res_test, res_stop]; rfl

theorem Nulls_res (a b : Val) : (m_R01_Nulls [.i a.k, .i a.n, .s (bs a.s), .i b.k, .i b.n, .s (bs b.s)]).res = some (0, [.b (decide (a.k = 0 ∨ b.k = 0))]) := by
  by_cases h : a.k = 0
  · simp [m_R01_Nulls, h]
  · by_cases h2 : b.k = 0
    · simp [m_R01_Nulls, h, h2]
    · simp [m_R01_Nulls, h, h2]
theorem Ints_res (a b : Val) : (m_R01_Ints [.i a.k, .i a.n, .s (bs a.s), .i b.k, .i b.n, .s (bs b.s)]).res = some (0, [.b (decide (a.k = 2 ∧ b.k = 2))]) := by
  by_cases h : a.k = 2
  · by_cases h2 : b.k = 2
    · simp [m_R01_Ints, h, h2]
    · simp [m_R01_Ints, h, h2]
  · simp [m_R01_Ints, h]

theorem arithR {m : List U → Rt} (f : Int → Int → Int) (a b : Val) (h0 : a.k = 0 ∨ b.k = 0 → (m [.i a.k, .i a.n, .s (bs a.s), .i b.k, .i b.n, .s (bs b.s)]).res = some (0, ru (nul, true)))
    (h1 : ¬ (a.k = 0 ∨ b.k = 0) → ¬ (a.k = 2 ∧ b.k = 2) → (m [.i a.k, .i a.n, .s (bs a.s), .i b.k, .i b.n, .s (bs b.s)]).res = some (0, ru (nul, false)))
    (h2 : a.k = 2 → b.k = 2 → (m [.i a.k, .i a.n, .s (bs a.s), .i b.k, .i b.n, .s (bs b.s)]).res = some (0, ru (if in64 (f a.n b.n) then (intV (f a.n b.n), true) else (nul, false)))) :
    (m [.i a.k, .i a.n, .s (bs a.s), .i b.k, .i b.n, .s (bs b.s)]).res = some (0, ru (arith f a b)) := by
  unfold arith
  by_cases c0 : a.k = 0 ∨ b.k = 0
  · rw [if_pos c0, h0 c0]
  · rw [if_neg c0]
    by_cases c1 : a.k = 2 ∧ b.k = 2
    · rw [if_neg (by omega), h2 c1.1 c1.2]
    · rw [if_pos (by omega), h1 c0 c1]

theorem RAdd_res (a b : Val) (ha : a.ok) (hb : b.ok) : (m_R01_Add [.i a.k, .i a.n, .s (bs a.s), .i b.k, .i b.n, .s (bs b.s)]).res = some (0, ru (addV a b)) := by
  have n1 := Nulls_res a b
  have n2 := Ints_res a b
  have i1 := ha.2.1
  have i2 := hb.2.1
  unfold i64 at i1 i2
  have eb : ({ data := #[] } : ByteArray) = bs [] := rfl
  refine arithR (· + ·) a b (fun h => ?_) (fun h g => ?_) (fun g1 g2 => ?_)
  · simp only [m_R01_Add, n1, h, ok_some', out_some, res_test, res_stop, uB_0, beq_self_eq_true, decide_true, if_true, ru, nul, eb]
  · simp only [m_R01_Add, n1, n2, h, g, ok_some', out_some, res_test, res_stop, uB_0, beq_self_eq_true, decide_false, Bool.false_eq_true, if_false, if_true, Bool.not_false, ru, nul, eb]
  · have h : ¬ (a.k = 0 ∨ b.k = 0) := by omega
    have g : a.k = 2 ∧ b.k = 2 := ⟨g1, g2⟩
    rw [decide_eq_false h] at n1
    rw [decide_eq_true g] at n2
    simp only [m_R01_Add, n1, n2, ok_some', out_some, res_test, res_stop, uB_0, beq_self_eq_true, decide_true, decide_false, Bool.false_eq_true, if_false, if_true, Bool.not_true, and_self]
    by_cases p : b.n > 0
    · have w : w64 (9223372036854775807 - b.n) = 9223372036854775807 - b.n := w64_eq (by omega) (by omega)
      have q : ¬ b.n < 0 := by omega
      by_cases r : a.n > 9223372036854775807 - b.n
      · have : in64 (a.n + b.n) = false := by unfold in64; rw [decide_eq_false_iff_not]; omega
        simp only [p, w, r, this, decide_true, if_true, Bool.false_eq_true, if_false, ru, nul, eb]
      · have : in64 (a.n + b.n) = true := by unfold in64; rw [decide_eq_true_eq]; omega
        simp only [p, q, w, r, this, w64_in this, decide_true, decide_false, if_true, Bool.false_eq_true, if_false, ru, intV, eb]
    · by_cases q : b.n < 0
      · have w : w64 (-9223372036854775808 - b.n) = -9223372036854775808 - b.n := w64_eq (by omega) (by omega)
        by_cases r : a.n < -9223372036854775808 - b.n
        · have : in64 (a.n + b.n) = false := by unfold in64; rw [decide_eq_false_iff_not]; omega
          simp only [p, q, w, r, this, decide_true, decide_false, if_true, Bool.false_eq_true, if_false, ru, nul, eb]
        · have : in64 (a.n + b.n) = true := by unfold in64; rw [decide_eq_true_eq]; omega
          simp only [p, q, w, r, this, w64_in this, decide_true, decide_false, if_true, Bool.false_eq_true, if_false, ru, intV, eb]
      · have : in64 (a.n + b.n) = true := by unfold in64; rw [decide_eq_true_eq]; omega
        simp only [p, q, this, w64_in this, decide_true, decide_false, if_true, Bool.false_eq_true, if_false, ru, intV, eb]

theorem RSub_res (a b : Val) (ha : a.ok) (hb : b.ok) : (m_R01_Sub [.i a.k, .i a.n, .s (bs a.s), .i b.k, .i b.n, .s (bs b.s)]).res = some (0, ru (subV a b)) := by
  have n1 := Nulls_res a b
  have n2 := Ints_res a b
  have i1 := ha.2.1
  have i2 := hb.2.1
  unfold i64 at i1 i2
  have eb : ({ data := #[] } : ByteArray) = bs [] := rfl
  refine arithR (· - ·) a b (fun h => ?_) (fun h g => ?_) (fun g1 g2 => ?_)
  · simp only [m_R01_Sub, n1, h, ok_some', out_some, res_test, res_stop, uB_0, beq_self_eq_true, decide_true, if_true, ru, nul, eb]
  · simp only [m_R01_Sub, n1, n2, h, g, ok_some', out_some, res_test, res_stop, uB_0, beq_self_eq_true, decide_false, Bool.false_eq_true, if_false, if_true, Bool.not_false, ru, nul, eb]
  · have h : ¬ (a.k = 0 ∨ b.k = 0) := by omega
    have g : a.k = 2 ∧ b.k = 2 := ⟨g1, g2⟩
    rw [decide_eq_false h] at n1
    rw [decide_eq_true g] at n2
    simp only [m_R01_Sub, n1, n2, ok_some', out_some, res_test, res_stop, uB_0, beq_self_eq_true, decide_true, decide_false, Bool.false_eq_true, if_false, if_true, Bool.not_true, and_self]
    by_cases p : b.n < 0
    · have w : w64 (9223372036854775807 + b.n) = 9223372036854775807 + b.n := w64_eq (by omega) (by omega)
      have q : ¬ b.n > 0 := by omega
      by_cases r : a.n > 9223372036854775807 + b.n
      · have : in64 (a.n - b.n) = false := by unfold in64; rw [decide_eq_false_iff_not]; omega
        simp only [p, w, r, this, decide_true, if_true, Bool.false_eq_true, if_false, ru, nul, eb]
      · have : in64 (a.n - b.n) = true := by unfold in64; rw [decide_eq_true_eq]; omega
        simp only [p, q, w, r, this, w64_in this, decide_true, decide_false, if_true, Bool.false_eq_true, if_false, ru, intV, eb]
    · by_cases q : b.n > 0
      · have w : w64 (-9223372036854775808 + b.n) = -9223372036854775808 + b.n := w64_eq (by omega) (by omega)
        by_cases r : a.n < -9223372036854775808 + b.n
        · have : in64 (a.n - b.n) = false := by unfold in64; rw [decide_eq_false_iff_not]; omega
          simp only [p, q, w, r, this, decide_true, decide_false, if_true, Bool.false_eq_true, if_false, ru, nul, eb]
        · have : in64 (a.n - b.n) = true := by unfold in64; rw [decide_eq_true_eq]; omega
          simp only [p, q, w, r, this, w64_in this, decide_true, decide_false, if_true, Bool.false_eq_true, if_false, ru, intV, eb]
      · have : in64 (a.n - b.n) = true := by unfold in64; rw [decide_eq_true_eq]; omega
        simp only [p, q, this, w64_in this, decide_true, decide_false, if_true, Bool.false_eq_true, if_false, ru, intV, eb]

theorem mul_back {a b : Int} (ha : i64 a) (hb : i64 b) (b0 : b ≠ 0) (hm : ¬ (a = -9223372036854775808 ∧ b = -1)) : (w64 (Int.tdiv (w64 (a * b)) b) = a ∧ Int.tmod (w64 (a * b)) b = 0) ↔ in64 (a * b) = true := by
  constructor
  · intro ⟨h1, h2⟩
    have hr : -9223372036854775808 ≤ w64 (a * b) ∧ w64 (a * b) < 9223372036854775808 := by rw [w64_def]; omega
    generalize w64 (a * b) = n at *
    have h3 := Int.mul_tdiv_add_tmod n b
    rw [h2, Int.add_zero] at h3
    have h4 := Int.natAbs_tdiv_le_natAbs n b
    generalize Int.tdiv n b = q at *
    unfold i64 at ha hb
    by_cases hq : -9223372036854775808 ≤ q ∧ q < 9223372036854775808
    · rw [w64_eq hq.1 hq.2] at h1
      subst h1
      rw [Int.mul_comm q b, h3]
      exact decide_eq_true hr
    · exfalso
      have hq2 : q = 9223372036854775808 := by omega
      subst hq2
      have hn : n = -9223372036854775808 := by omega
      have ha2 : a = -9223372036854775808 := by rw [← h1]; rfl
      have hb2 : b = -1 := by omega
      exact hm ⟨ha2, hb2⟩
  · intro h
    rw [w64_in h, Int.mul_tdiv_cancel _ b0, Int.mul_tmod_left]
    exact ⟨w64_eq ha.1 ha.2, rfl⟩

theorem RMul_res (a b : Val) (ha : a.ok) (hb : b.ok) : (m_R01_Mul [.i a.k, .i a.n, .s (bs a.s), .i b.k, .i b.n, .s (bs b.s)]).res = some (0, ru (mulV a b)) := by
  have n1 := Nulls_res a b
  have n2 := Ints_res a b
  have i1 := ha.2.1
  have i2 := hb.2.1
  have eb : ({ data := #[] } : ByteArray) = bs [] := rfl
  refine arithR (· * ·) a b (fun h => ?_) (fun h g => ?_) (fun g1 g2 => ?_)
  · simp only [m_R01_Mul, n1, h, ok_some', out_some, res_test, res_stop, uB_0, beq_self_eq_true, decide_true, if_true, ru, nul, eb]
  · simp only [m_R01_Mul, n1, n2, h, g, ok_some', out_some, res_test, res_stop, uB_0, beq_self_eq_true, decide_false, Bool.false_eq_true, if_false, if_true, Bool.not_false, ru, nul, eb]
  · have h : ¬ (a.k = 0 ∨ b.k = 0) := by omega
    have g : a.k = 2 ∧ b.k = 2 := ⟨g1, g2⟩
    rw [decide_eq_false h] at n1
    rw [decide_eq_true g] at n2
    simp only [m_R01_Mul, n1, n2, ok_some', out_some, res_test, res_stop, uB_0, beq_self_eq_true, decide_true, decide_false, Bool.false_eq_true, if_false, if_true, Bool.not_true, and_self]
    generalize a.n = x at *
    generalize b.n = y at *
    have z1 : in64 0 = true := rfl
    by_cases x0 : x = 0
    · subst x0
      rw [Int.zero_mul]
      simp only [z1, beq_self_eq_true, if_true, ru, intV, eb]
    have x0' : (x == 0) = false := by simpa using x0
    by_cases y0 : y = 0
    · subst y0
      rw [Int.mul_zero]
      simp only [z1, x0', beq_self_eq_true, if_true, Bool.false_eq_true, if_false, ru, intV, eb]
    have y0' : (y == 0) = false := by simpa using y0
    have y0'' : decide (y = 0) = false := by simpa using y0
    simp only [x0', y0', y0'', Bool.false_eq_true, if_false]
    have fin : ¬ (x = -9223372036854775808 ∧ y = -1) → ((if (w64 (Int.tdiv (w64 (x * y)) y) != x) = true then some (0, [U.i 0, U.i 0, U.s { data := #[] }, U.b false]) else if (Int.tmod (w64 (x * y)) y != 0) = true then some (0, [U.i 0, U.i 0, U.s { data := #[] }, U.b false]) else some (0, [U.i 2, U.i (w64 (x * y)), U.s { data := #[] }, U.b true])) : Rs) =
        some (0, ru (if in64 (x * y) = true then (intV (x * y), true) else (nul, false))) := by
      intro hm
      have hb := mul_back i1 i2 y0 hm
      by_cases hin : in64 (x * y) = true
      · obtain ⟨k1, k2⟩ := hb.2 hin
        rw [if_pos hin]
        have e1 : (w64 (Int.tdiv (w64 (x * y)) y) != x) = false := by rw [k1]; simp
        have e2 : (Int.tmod (w64 (x * y)) y != 0) = false := by rw [k2]; rfl
        rw [if_neg (by rw [e1]; decide), if_neg (by rw [e2]; decide), w64_in hin]
        simp only [ru, intV, eb]
      · rw [if_neg hin]
        by_cases k1 : w64 (Int.tdiv (w64 (x * y)) y) = x
        · have e1 : (w64 (Int.tdiv (w64 (x * y)) y) != x) = false := by rw [k1]; simp
          have k2 : ¬ Int.tmod (w64 (x * y)) y = 0 := fun k2 => hin (hb.1 ⟨k1, k2⟩)
          have e2 : (Int.tmod (w64 (x * y)) y != 0) = true := by rw [bne_iff_ne]; exact k2
          simp only [e1, e2, Bool.false_eq_true, if_false, if_true, ru, nul, eb]
        · have e1 : (w64 (Int.tdiv (w64 (x * y)) y) != x) = true := by rw [bne_iff_ne]; exact k1
          simp only [e1, if_true, ru, nul, eb]
    have big : in64 9223372036854775808 = false := rfl
    by_cases xm : x = -1
    · subst xm
      by_cases ym : y = -9223372036854775808
      · subst ym
        rw [show (-1 : Int) * -9223372036854775808 = 9223372036854775808 from rfl]
        simp only [big, beq_self_eq_true, if_true, Bool.false_eq_true, if_false, ru, nul, eb]
      · have ym' : (y == -9223372036854775808) = false := by simpa using ym
        have hf := fin (by omega)
        by_cases y1 : y = -1
        · subst y1
          simp only [ym', beq_self_eq_true, if_true, Bool.false_eq_true, if_false, show ((-1 : Int) == -9223372036854775808) = false from rfl]
          exact hf
        · have y1' : (y == -1) = false := by simpa using y1
          simp only [ym', y1', beq_self_eq_true, if_true, Bool.false_eq_true, if_false]
          exact hf
    · have xm' : (x == -1) = false := by simpa using xm
      by_cases y1 : y = -1
      · subst y1
        by_cases x2 : x = -9223372036854775808
        · subst x2
          rw [show (-9223372036854775808 : Int) * -1 = 9223372036854775808 from rfl]
          simp only [xm', big, beq_self_eq_true, if_true, Bool.false_eq_true, if_false, ru, nul, eb]
        · have x2' : (x == -9223372036854775808) = false := by simpa using x2
          have hf := fin (by omega)
          simp only [xm', x2', beq_self_eq_true, if_true, Bool.false_eq_true, if_false]
          exact hf
      · have y1' : (y == -1) = false := by simpa using y1
        have hf := fin (by omega)
        simp only [xm', y1', Bool.false_eq_true, if_false]
        exact hf

theorem Rdo_res (op : Int) (a b : Val) (ha : a.ok) (hb : b.ok) (h : tk op = 1 ∨ tk op = 2) : (m_R03_do [.i op, .i a.k, .i a.n, .s (bs a.s), .i b.k, .i b.n, .s (bs b.s)]).res = some (0, ru (do2 op a b)) := by
  have h1 := RAdd_res a b ha hb
  have h2 := RSub_res a b ha hb
  have h3 := RMul_res a b ha hb
  have h4 := RAnd_res [a, b] (by simp)
  have h5 := ROr_res [a, b] (by simp)
  have h6 := RNot_res b
  have h7 : (m_R01_Truth [.b (b.k == 0)]).res = some (0, [.i (tru (decide (b.k = 0))).k, .i (tru (decide (b.k = 0))).n, .s (bs (tru (decide (b.k = 0))).s)]) := RTruth_res (b.k == 0)
  have h8 := Nulls_res a b
  have h9 := R01_Compare_res a b
  have h10 : (m_R01_Truth [.b (cmpV a b == 0)]).res = some (0, [.i (tru (decide (cmpV a b = 0))).k, .i (tru (decide (cmpV a b = 0))).n, .s (bs (tru (decide (cmpV a b = 0))).s)]) := RTruth_res (cmpV a b == 0)
  have h11 : (m_R01_Truth [.b (decide (cmpV a b < 0))]).res = some (0, [.i (tru (decide (cmpV a b < 0))).k, .i (tru (decide (cmpV a b < 0))).n, .s (bs (tru (decide (cmpV a b < 0))).s)]) := RTruth_res (decide (cmpV a b < 0))
  have e1 : re [a, b] = [[pI a.k, pI a.n, pS (bs a.s)], [pI b.k, pI b.n, pS (bs b.s)]] := rfl
  have eb : ({ data := #[] } : ByteArray) = bs [] := rfl
  rw [e1] at h4 h5
  simp only [ru, Val.u] at h1 h2 h3 h4 h5 h6
  have hop : op = 2 ∨ op = 3 ∨ op = 4 ∨ op = 5 ∨ op = 6 ∨ op = 7 ∨ op = 8 ∨ op = 9 ∨ op = 10 := by
    rcases h with h | h
    · have := tk_1 h; omega
    · have := tk_2 h; omega
  unfold do2 cmpE
  rcases hop with rfl | rfl | rfl | rfl | rfl | rfl | rfl | rfl | rfl
  · simp [m_R03_do, h1, ru]
  · simp [m_R03_do, h2, ru]
  · simp [m_R03_do, h3, ru]
  · by_cases c : a.k = 0 ∨ b.k = 0
    · simp [m_R03_do, h8, c, ru, nul, eb]
    · simp [m_R03_do, h8, h9, h10, c, ru, eb]
  · by_cases c : a.k = 0 ∨ b.k = 0
    · simp [m_R03_do, h8, c, ru, nul, eb]
    · simp [m_R03_do, h8, h9, h11, c, ru, eb]
  · simp [m_R03_do, h4, ru]
  · simp [m_R03_do, h5, ru]
  · simp [m_R03_do, h6, ru]
  · simp [m_R03_do, h7, ru]

end Go.Proofs.YthmljoalohpafaaGreatDoor

set_option linter.unusedVariables false
set_option linter.unusedSimpArgs false
namespace Go.Proofs.YthmljoalohpafaaGreatDoor
open Go Go.Pu

theorem sub_two {n : Nat} (h : n ≤ 1000000) : w64 (((n + 1 + 1 : Nat) : Int) - 2) = (n : Int) := by rw [w64_eq (by omega) (by omega)]; omega
theorem sv_at2 (b a : Val) (s : List Val) : el (sv (b :: a :: s)) ((s.length : Nat) : Int) = Val.e a := sv_at b a s

def roundR (e : List Nd) (row : List Val) (i : Nat) (r : Except Int (List Val)) : Rv :=
  match r with
  | .error f => .stop 0 [.i f, .i 0, .i 0, .s (bs [])]
  | .ok s' => .next [.l (e.map Nd.e), .l (re row), .i ((i + 1 : Nat) : Int), .i 0, .i 0, .s (bs []), .i 0, .i 0, .s (bs []), .l (sv s')]

set_option maxHeartbeats 800000 in
theorem Reval_round (e : List Nd) (hl : e.length ≤ 100) (row : List Val) (hrow : okR row) (i : Nat) (hi : i < e.length) (he : e[i].ok) (s : List Val) (hs : s.length ≤ i) (hok : okSt s) :
    (rd_R03_Eval_8_6 [.l (e.map Nd.e), .l (re row), .i (i : Nat), .i 0, .i 0, .s (bs []), .i 0, .i 0, .s (bs []), .l (sv s)]).val = some (roundR e row i (stepV row s e[i])) := by
  have hel : el (e.map Nd.e) ((i : Nat) : Int) = Nd.e e[i] := el_map _ _ hi
  have ht := R03_Takes_res e[i].op
  have c0 : cI (Nd.e e[i]) 0 = e[i].op := rfl
  have c1 : cI (Nd.e e[i]) 1 = e[i].n := rfl
  have c2 : cI (Nd.e e[i]) 2 = e[i].v.k := rfl
  have c3 : cI (Nd.e e[i]) 3 = e[i].v.n := rfl
  have c4 : cS (Nd.e e[i]) 4 = bs e[i].v.s := rfl
  have hm := R01_May_res e[i].v
  have hlen : ∀ s : List Val, s.length ≤ 101 → decide (((sv s).length + 1) * 32 ≤ 140737488355328) = true := fun s h => by rw [decide_eq_true_eq, sv_len]; omega
  have hlen2 : ∀ s : List Val, s.length ≤ 101 → decide ((0 + (sv s).length) * 32 ≤ 140737488355328) = true := fun s h => by rw [decide_eq_true_eq, sv_len]; omega
  have v0 : ∀ v : Val, cI (Val.e v) 0 = v.k := fun _ => rfl
  have v1 : ∀ v : Val, cI (Val.e v) 1 = v.n := fun _ => rfl
  have v2 : ∀ v : Val, cS (Val.e v) 2 = bs v.s := fun _ => rfl
  have eb : ({ data := #[] } : ByteArray) = bs [] := rfl
  generalize e[i] = d at *
  obtain ⟨op, n, v⟩ := d
  simp only at c0 c1 c2 c3 c4 ht hm
  unfold stepV
  simp only
  rcases tk_vals op with h | h | h | h
  · have g0 : ¬ op = 0 := by rintro rfl; exact absurd h (by decide)
    have g1 : ¬ op = 1 := by rintro rfl; exact absurd h (by decide)
    rw [if_neg g0, if_neg g1, if_neg (by omega), if_neg (by omega)]
    rw [h] at ht
    simp only [↓reduceIte, rd_R03_Eval_8_6, rt_test, rt_next, rt_stop, hel, ln_map, inR_cast, Int.ofNat_lt, hi, decide_true, if_true, c0, ht, ok_some', out_some, uI_0, beq_self_eq_true, show decide ((-1 : Int) < 0) = true from rfl, roundR]
  · rw [h] at ht
    have hnl : ¬ ((s.length : Nat) : Int) < 0 := by omega
    rcases tk_0 h with rfl | rfl
    · rw [if_pos rfl]
      simp only [↓reduceIte, rd_R03_Eval_8_6, rt_test, rt_next, rt_stop, hel, ln_map, ln_re, sv_ln, hnl, inR_cast, Int.ofNat_lt, hi, decide_true, decide_false, if_true, c0, c1, ht, ok_some', out_some, uI_0, beq_self_eq_true, Bool.false_eq_true, if_false, show decide ((0 : Int) < 0) = false from rfl]
      by_cases n0 : n < 0
      · rw [if_neg (c := 0 ≤ n ∧ n < (row.length : Int)) (fun h => by omega)]
        simp only [n0, decide_true, if_true, roundR]
      · by_cases n1 : n ≥ (row.length : Int)
        · rw [if_neg (c := 0 ≤ n ∧ n < (row.length : Int)) (fun h => by omega)]
          simp only [n0, n1, decide_true, decide_false, Bool.false_eq_true, if_false, if_true, roundR]
        · obtain ⟨m, rfl⟩ : ∃ m : Nat, n = m := ⟨n.toNat, by omega⟩
          have hm' : m < row.length := by omega
          have g : row.getD m nul = row[m] := by rw [List.getD, List.getElem?_eq_getElem hm']; rfl
          rw [if_pos (c := 0 ≤ (m : Int) ∧ (m : Int) < (row.length : Int)) (by omega), Int.toNat_natCast, g]
          simp only [n0, n1, decide_false, Bool.false_eq_true, if_false, el_re _ hm', inR_cast, hm', decide_true, if_true, v0, v1, v2, hlen s (by omega), sv_push, w64_succ (i := i) (by omega), roundR]
    · rw [if_neg (by decide), if_pos rfl]
      simp only [↓reduceIte, rd_R03_Eval_8_6, rt_test, rt_next, rt_stop, hel, ln_map, sv_ln, hnl, inR_cast, Int.ofNat_lt, hi, decide_true, decide_false, if_true, c0, c2, c3, c4, ht, hm, ok_some', out_some, uI_0, uB_0, beq_self_eq_true, Bool.false_eq_true, if_false, show decide ((0 : Int) < 0) = false from rfl, show ((1 : Int) == 0) = false from rfl, hlen s (by omega), sv_push, w64_succ (i := i) (by omega)]
      cases mayV v <;> rfl
  · have g0 : ¬ op = 0 := by rintro rfl; exact absurd h (by decide)
    have g1 : ¬ op = 1 := by rintro rfl; exact absurd h (by decide)
    have b0 : (op == 0) = false := by simpa using g0
    have b1 : (op == 1) = false := by simpa using g1
    rw [if_neg g0, if_neg g1, if_pos h]
    have htk := h
    rw [h] at ht
    match s, hs, hok with
    | [], _, _ =>
      simp only [↓reduceIte, rd_R03_Eval_8_6, rt_test, rt_next, rt_stop, hel, ln_map, inR_cast, Int.ofNat_lt, hi, decide_true, if_true, c0, ht, ok_some', out_some, uI_0, beq_self_eq_true, show decide ((1 : Int) < 0) = false from rfl, show ln (sv []) = 0 from rfl, show decide ((0 : Int) < 1) = true from rfl, Bool.false_eq_true, if_false, roundR]
    | b :: s, hs, hok =>
      have hs' : s.length + 1 ≤ i := by simpa using hs
      have hb : b.ok := hok b (List.mem_cons_self ..)
      have hv := R03_Leaves_res op 0 b.k (.inl h)
      have hd := Rdo_res op nul b nulE_ok hb (.inl h)
      have e1 : ln (sv (b :: s)) = ((s.length + 1 : Nat) : Int) := by rw [sv_ln]; rfl
      have e2 : ¬ ((s.length + 1 : Nat) : Int) < 1 := by omega
      have e3 : inR ((s.length : Nat) : Int) ((s.length + 1 : Nat) : Int) = true := inR_iff.2 ⟨by omega, by omega⟩
      have e4 : decide (s.length < (sv (b :: s)).length) = true := by rw [decide_eq_true_eq, sv_len]; simp
      have e5 : decide ((0 : Int) ≤ 0 ∧ (0 : Int) ≤ ((s.length : Nat) : Int) ∧ ((s.length : Nat) : Int) ≤ ((s.length + 1 : Nat) : Int)) = true := by rw [decide_eq_true_eq]; omega
      have e6 : decide (0 + s.length ≤ (sv (b :: s)).length) = true := by rw [decide_eq_true_eq, sv_len]; simp
      simp only [show nul.k = 0 from rfl, show nul.n = 0 from rfl, show nul.s = [] from rfl] at hd
      simp only [↓reduceIte, rd_R03_Eval_8_6, rt_test, rt_next, rt_stop, hel, ln_map, inR_cast, Int.ofNat_lt, hi, decide_true, decide_false, if_true, c0, c1, c2, c3, c4, ht, b0, b1, e1, e2, e3, e4, e5, e6, sub_one (n := s.length) (by omega), sv_top, Int.toNat_natCast, Nat.sub_zero, sv_pop, v0, v1, v2, hv, hd, ru, List.nil_append, ok_some', out_some, uI_0, uI_s, uB_0, uB_s, uS_0, uS_s, beq_self_eq_true, Bool.not_true, Bool.false_eq_true, if_false, show decide ((1 : Int) > 1) = false from rfl, show decide ((1 : Int) < 0) = false from rfl, hlen s (by omega), hlen2 s (by omega), sv_push, w64_succ (i := i) (by omega)]
      unfold appV
      rw [show nul.k = 0 from rfl]
      cases (lv op 0 b.k).2 with
      | false => simp only [Bool.not_false, if_true, Bool.false_eq_true, if_false, roundR]
      | true =>
        cases (do2 op nul b).2 with
        | false => simp only [Bool.not_false, Bool.not_true, if_true, Bool.false_eq_true, if_false, roundR]
        | true => simp only [Bool.not_true, if_true, Bool.false_eq_true, if_false, roundR]
  · have g0 : ¬ op = 0 := by rintro rfl; exact absurd h (by decide)
    have g1 : ¬ op = 1 := by rintro rfl; exact absurd h (by decide)
    have b0 : (op == 0) = false := by simpa using g0
    have b1 : (op == 1) = false := by simpa using g1
    rw [if_neg g0, if_neg g1, if_neg (by omega), if_pos h]
    rw [h] at ht
    match s, hs, hok with
    | [], _, _ =>
      simp only [↓reduceIte, rd_R03_Eval_8_6, rt_test, rt_next, rt_stop, hel, ln_map, inR_cast, Int.ofNat_lt, hi, decide_true, if_true, c0, ht, ok_some', out_some, uI_0, beq_self_eq_true, show decide ((2 : Int) < 0) = false from rfl, show ln (sv []) = 0 from rfl, show decide ((0 : Int) < 2) = true from rfl, Bool.false_eq_true, if_false, roundR]
    | [b], hs, _ =>
      have e1 : ln (sv [b]) = 1 := by rw [sv_ln]; rfl
      simp only [↓reduceIte, rd_R03_Eval_8_6, rt_test, rt_next, rt_stop, hel, ln_map, inR_cast, Int.ofNat_lt, hi, decide_true, if_true, c0, ht, ok_some', out_some, uI_0, beq_self_eq_true, e1, show decide ((2 : Int) < 0) = false from rfl, show decide ((1 : Int) < 2) = true from rfl, Bool.false_eq_true, if_false, roundR]
    | b :: a :: s, hs, hok =>
      have hs' : s.length + 1 + 1 ≤ i := by simpa using hs
      have hb : b.ok := hok b (List.mem_cons_self ..)
      have ha : a.ok := hok a (List.mem_cons_of_mem _ (List.mem_cons_self ..))
      have hv := R03_Leaves_res op a.k b.k (.inr h)
      have hd := Rdo_res op a b ha hb (.inr h)
      have e1 : ln (sv (b :: a :: s)) = ((s.length + 1 + 1 : Nat) : Int) := by rw [sv_ln]; rfl
      have e2 : ¬ ((s.length + 1 + 1 : Nat) : Int) < 2 := by omega
      have e3 : inR ((s.length + 1 : Nat) : Int) ((s.length + 1 + 1 : Nat) : Int) = true := inR_iff.2 ⟨by omega, by omega⟩
      have e3' : inR ((s.length : Nat) : Int) ((s.length + 1 + 1 : Nat) : Int) = true := inR_iff.2 ⟨by omega, by omega⟩
      have hL : (sv (b :: a :: s)).length = s.length + 1 + 1 := by rw [sv_len]; rfl
      have e4 : decide (s.length + 1 < (sv (b :: a :: s)).length) = true := by rw [decide_eq_true_eq, hL]; omega
      have e4' : decide (s.length < (sv (b :: a :: s)).length) = true := by rw [decide_eq_true_eq, hL]; omega
      have e5 : decide ((0 : Int) ≤ 0 ∧ (0 : Int) ≤ ((s.length : Nat) : Int) ∧ ((s.length : Nat) : Int) ≤ ((s.length + 1 + 1 : Nat) : Int)) = true := by rw [decide_eq_true_eq]; omega
      have e6 : decide (0 + s.length ≤ (sv (b :: a :: s)).length) = true := by rw [decide_eq_true_eq, hL]; omega
      have tp : el (sv (b :: a :: s)) ((s.length + 1 : Nat) : Int) = Val.e b := sv_top b (a :: s)
      have w1 : w64 (((s.length + 1 + 1 : Nat) : Int) - 1) = ((s.length + 1 : Nat) : Int) := sub_one (n := s.length + 1) (by omega)
      have w2 := sub_two (n := s.length) (by omega)
      simp only [↓reduceIte, rd_R03_Eval_8_6, rt_test, rt_next, rt_stop, hel, ln_map, hi, decide_true, decide_false, if_true, c0, c1, c2, c3, c4, ht, b0, b1, e1, e2, e3, e3', e4, e4', e5, e6, w1, w2, tp, sv_at2, Int.toNat_natCast, Nat.sub_zero, sv_pop2, v0, v1, v2, hv, hd, ru, List.nil_append, ok_some', out_some, uI_0, uI_s, uB_0, uB_s, uS_0, uS_s, beq_self_eq_true, Bool.not_true, Bool.false_eq_true, if_false, show decide ((2 : Int) > 1) = true from rfl, show decide ((2 : Int) < 0) = false from rfl, hlen s (by omega), hlen2 s (by omega), sv_push, w64_succ (i := i) (by omega), show decide (((i : Nat) : Int) < ((e.length : Nat) : Int)) = true by rw [decide_eq_true_eq]; omega, show inR ((i : Nat) : Int) ((e.length : Nat) : Int) = true from inR_iff.2 ⟨by omega, by omega⟩]
      unfold appV
      cases (lv op a.k b.k).2 with
      | false => simp only [Bool.not_false, if_true, Bool.false_eq_true, if_false, roundR]
      | true =>
        cases (do2 op a b).2 with
        | false => simp only [Bool.not_false, Bool.not_true, if_true, Bool.false_eq_true, if_false, roundR]
        | true => simp only [Bool.not_true, if_true, Bool.false_eq_true, if_false, roundR]

theorem Reval_loop (e : List Nd) (hl : e.length ≤ 100) (he : ∀ d ∈ e, d.ok) (row : List Val) (hrow : okR row) : ∀ m i (s : List Val), e.length - i = m → i ≤ e.length → s.length ≤ i → okSt s →
    lres rd_R03_Eval_8_6 [.l (e.map Nd.e), .l (re row), .i (i : Nat), .i 0, .i 0, .s (bs []), .i 0, .i 0, .s (bs []), .l (sv s)] =
      match runV row (e.drop i) s with
      | .error f => some (0, [.i f, .i 0, .i 0, .s (bs [])])
      | .ok s' => some (1, [.i 0, .i 0, .s (bs []), .i 0, .i 0, .s (bs []), .l (sv s')]) := by
  intro m
  induction m with
  | zero =>
    intro i s h1 h2 h3 h4
    have : i = e.length := by omega
    subst this
    rw [List.drop_length, runV]
    refine lres_stop ?_
    simp [rd_R03_Eval_8_6]
  | succ m ih =>
    intro i s h1 h2 h3 h4
    have h : i < e.length := by omega
    have hr := Reval_round e hl row hrow i h (he _ (List.getElem_mem h)) s h3 h4
    rw [List.drop_eq_getElem_cons h, runV]
    cases hs : stepV row s e[i] with
    | error f =>
      rw [hs] at hr
      exact lres_stop hr
    | ok s1 =>
      rw [hs] at hr
      obtain ⟨k1, k2⟩ := stepV_len hs
      rw [lres_next hr]
      exact ih (i + 1) s1 (by omega) (by omega) (by omega) (k2 hrow.2 (he _ (List.getElem_mem h)) h4)

theorem REval_res (e : List Nd) (he : ∀ d ∈ e, d.ok) (row : List Val) (hrow : okR row) : (m_R03_Eval [.l (e.map Nd.e), .l (re row)]).res = some (0, [.i (evalV e row).1.k, .i (evalV e row).1.n, .s (bs (evalV e row).1.s), .i (evalV e row).2]) := by
  unfold evalV
  have eb : ({ data := #[] } : ByteArray) = bs [] := rfl
  by_cases hl : e.length > 100
  · have : ((e.length : Nat) : Int) > 100 := by omega
    rw [if_pos hl]
    simp only [m_R03_Eval, ln_map, res_test, res_stop, this, decide_true, if_true, nul, eb]
  · have h1 : ¬ ((e.length : Nat) : Int) > 100 := by omega
    have h := Reval_loop e (by omega) he row hrow e.length 0 [] (by omega) (by omega) (by simp) (fun v hv => by cases hv)
    simp only [List.drop_zero, Int.natCast_zero, show sv [] = [] from rfl] at h
    rw [if_neg hl]
    match hr : runV row e [] with
    | .error f =>
      rw [hr] at h
      simp only [m_R03_Eval, ln_map, res_test, res_stop, h1, decide_false, Bool.false_eq_true, if_false, eb, h, ok_some', out_some, beq_self_eq_true, if_true, uI_0, uI_s, uS_0, uS_s, lastV, nul]
    | .ok [] =>
      rw [hr] at h
      simp only [m_R03_Eval, ln_map, res_test, res_stop, h1, decide_false, Bool.false_eq_true, if_false, eb, h, ok_some', out_some, beq_self_eq_true, if_true, uI_0, uI_s, uS_0, uS_s, uL_0, uL_s, show ((0 : Nat) == 1) = false from rfl, show (ln (sv []) != 1) = true from rfl, lastV, nul]
    | .ok [x] =>
      rw [hr] at h
      have g1 : (ln (sv [x]) != 1) = false := rfl
      have g2 : inR 0 (ln (sv [x])) = true := rfl
      have g3 : decide (0 < (sv [x]).length) = true := rfl
      have g4 : List.getD (sv [x]) 0 [] = Val.e x := rfl
      simp only [m_R03_Eval, ln_map, res_test, res_stop, h1, decide_false, Bool.false_eq_true, if_false, eb, h, ok_some', out_some, beq_self_eq_true, if_true, uI_0, uI_s, uL_0, uL_s, show ((0 : Nat) == 1) = false from rfl, g1, g2, g3, g4, lastV]
      rfl
    | .ok (x :: y :: s) =>
      rw [hr] at h
      have g1 : (ln (sv (x :: y :: s)) != 1) = true := by rw [sv_ln, bne_iff_ne]; simp; omega
      simp only [m_R03_Eval, ln_map, res_test, res_stop, h1, decide_false, Bool.false_eq_true, if_false, eb, h, ok_some', out_some, beq_self_eq_true, if_true, uI_0, uI_s, uS_0, uS_s, uL_0, uL_s, show ((0 : Nat) == 1) = false from rfl, g1, lastV, nul]

/-! parts -/

theorem evalV_run {e : List Nd} {row : List Val} (hl : ¬ e.length > 100) (h30 : (evalV e row).2 ≠ 30) : (∃ x, runV row e [] = .ok [x] ∧ evalV e row = (x, 0)) ∨ (∃ f, runV row e [] = .error f ∧ evalV e row = (nul, f) ∧ f ≠ 30) := by
  unfold evalV at *
  rw [if_neg hl] at h30 ⊢
  match hr : runV row e [], h30 with
  | .error f, h30 => exact .inr ⟨f, rfl, rfl, h30⟩
  | .ok [x], _ => exact .inl ⟨x, rfl, rfl⟩
  | .ok [], h30 => exact absurd rfl h30
  | .ok (x :: y :: s), h30 => exact absurd rfl h30

theorem stepV_err {row s : List Val} {d : Nd} {f : Int} (h : stepV row s d = .error f) : f = 30 ∨ f = 31 := by
  have ha : ∀ op a b (s : List Val), appV op a b s = .error f → f = 30 ∨ f = 31 := by
    intro op a b s h
    unfold appV at h
    (repeat' split at h) <;> first | (injection h with h; omega) | cases h
  unfold stepV at h
  (repeat' split at h) <;> first | (injection h with h; omega) | exact ha _ _ _ _ h | cases h
theorem runV_err {row : List Val} : ∀ {e : List Nd} {s : List Val} {f : Int}, runV row e s = .error f → f = 30 ∨ f = 31
  | [], s, f, h => by cases h
  | d :: e, s, f, h => by
    unfold runV at h
    cases hs : stepV row s d with
    | error g => rw [hs] at h; injection h with h; subst h; exact stepV_err hs
    | ok s1 => rw [hs] at h; exact runV_err h

/-- two expressions and a step that takes two -/
theorem parts (a b : List Nd) (op : Int) (row : List Val) (la : a.length ≤ 40) (lb : b.length ≤ 40) (hop : tk op = 2) (ha : (evalV a row).2 ≠ 30) (hb : (evalV b row).2 ≠ 30) :
    ((evalV a row).2 ≠ 0 → (evalV (a ++ b ++ [⟨op, 0, nul⟩]) row).2 = (evalV a row).2) ∧
    ((evalV a row).2 = 0 → (evalV b row).2 ≠ 0 → (evalV (a ++ b ++ [⟨op, 0, nul⟩]) row).2 = (evalV b row).2) ∧
    ((evalV a row).2 = 0 → (evalV b row).2 = 0 → evalV (a ++ b ++ [⟨op, 0, nul⟩]) row = evalV [⟨0, 0, nul⟩, ⟨0, 1, nul⟩, ⟨op, 0, nul⟩] [(evalV a row).1, (evalV b row).1]) := by
  have hlen : ¬ (a ++ b ++ [(⟨op, 0, nul⟩ : Nd)]).length > 100 := by simp; omega
  have g0 : ¬ op = 0 := by rintro rfl; exact absurd hop (by decide)
  have g1 : ¬ op = 1 := by rintro rfl; exact absurd hop (by decide)
  have hev : evalV (a ++ b ++ [⟨op, 0, nul⟩]) row = lastV (runV row (a ++ b ++ [⟨op, 0, nul⟩]) []) := by unfold evalV; rw [if_neg hlen]
  rw [hev, List.append_assoc, runV_app]
  rcases evalV_run (by omega) ha with ⟨x, hx, ex⟩ | ⟨f, hx, ex, nf⟩
  · rw [hx, ex]
    simp only
    rw [runV_app]
    refine ⟨fun h => absurd rfl h, fun _ hb0 => ?_, fun _ hb0 => ?_⟩
    · rcases evalV_run (by omega) hb with ⟨y, hy, ey⟩ | ⟨f, hy, ey, nf⟩
      · rw [ey] at hb0; exact absurd rfl hb0
      · have h31 : f = 31 := by rcases runV_err hy with h | h; exact absurd h nf; exact h
        subst h31
        have := (runV_under row [x] b []).2 hy
        rw [List.nil_append] at this
        rw [this, ey]; rfl
    · rcases evalV_run (by omega) hb with ⟨y, hy, ey⟩ | ⟨f, hy, ey, nf⟩
      · have := (runV_under row [x] b []).1 _ hy
        rw [List.nil_append] at this
        rw [this, ey]
        have s1 : ∀ r, stepV r [y, x] ⟨op, 0, nul⟩ = appV op x y [] := fun r => by unfold stepV; rw [if_neg g0, if_neg g1, if_neg (by show ¬ tk op = 1; omega), if_pos hop]
        have r3 : runV [x, y] [⟨0, 0, nul⟩, ⟨0, 1, nul⟩, ⟨op, 0, nul⟩] [] = runV [x, y] [⟨op, 0, nul⟩] [y, x] := rfl
        show lastV (runV row [⟨op, 0, nul⟩] [y, x]) = _
        unfold evalV
        rw [if_neg (by simp), r3, runV, runV, s1, s1]
        rfl
      · rw [ey] at hb0
        rcases runV_err hy with h | h
        · exact absurd h nf
        · have : f = 0 := hb0
          omega
  · rw [hx, ex]
    refine ⟨fun _ => rfl, fun h => ?_, fun h => ?_⟩
    · have : f = 0 := h
      rcases runV_err hx with h | h <;> omega
    · have : f = 0 := h
      rcases runV_err hx with h | h <;> omega

theorem evalV_ok {e : List Nd} {row : List Val} (he : ∀ d ∈ e, d.ok) (hrow : ∀ v ∈ row, v.ok) : (evalV e row).1.ok := by
  have key : ∀ (e : List Nd) (s t : List Val), (∀ d ∈ e, d.ok) → okSt s → runV row e s = .ok t → okSt t := by
    intro e
    induction e with
    | nil => intro s t _ hs h; injection h with h; subst h; exact hs
    | cons d e ih =>
      intro s t hd hs h
      unfold runV at h
      cases h1 : stepV row s d with
      | error f => rw [h1] at h; cases h
      | ok s1 =>
        rw [h1] at h
        exact ih s1 t (fun x hx => hd x (List.mem_cons_of_mem _ hx)) ((stepV_len h1).2 hrow (hd d (List.mem_cons_self ..)) hs) h
  unfold evalV
  split
  · exact nulE_ok
  · match hr : runV row e [] with
    | .error f => exact nulE_ok
    | .ok [x] => exact key e [] [x] he (fun v hv => by cases hv) hr x (List.mem_cons_self ..)
    | .ok [] => exact nulE_ok
    | .ok (x :: y :: s) => exact nulE_ok

theorem eqV_cc (v w : Val) : (v.k == w.k && (v.n == w.n && (v.s == w.s && true))) = decide (v = w) := eqV_c v w.k w.n w.s

theorem exprParts_res (a b : List Nd) (hA : a.length ≤ 140737488355328) (hB : b.length ≤ 140737488355328) (ha : ∀ d ∈ a, d.ok) (hb : ∀ d ∈ b, d.ok) (op : Int) (hop : i64 op) (row : List Val) (hrow : okR row) :
    (m_L03_ExprParts [.l (a.map Nd.e), .l (b.map Nd.e), .i op, .l (re row)]).res = some (0, [.b true]) := by
  have h1 := Big_res a hA
  have h2 := Big_res b hB
  cases c1 : bigE a with
  | true => simp only [m_L03_ExprParts, h1, c1, ok_some', out_some, res_test, res_stop, uB_0, beq_self_eq_true, if_true]
  | false =>
  cases c2 : bigE b with
  | true => simp only [m_L03_ExprParts, h1, h2, c1, c2, ok_some', out_some, res_test, res_stop, uB_0, beq_self_eq_true, if_true, Bool.false_eq_true, if_false]
  | false =>
  by_cases c3 : ((a.length : Nat) : Int) > 40
  · simp only [↓reduceIte, m_L03_ExprParts, h1, h2, c1, c2, c3, ln_map, ok_some', out_some, res_test, res_stop, uB_0, beq_self_eq_true, if_true, Bool.false_eq_true, if_false, decide_true]
  by_cases c4 : ((b.length : Nat) : Int) > 40
  · simp only [↓reduceIte, m_L03_ExprParts, h1, h2, c1, c2, c3, c4, ln_map, ok_some', out_some, res_test, res_stop, uB_0, beq_self_eq_true, if_true, Bool.false_eq_true, if_false, decide_true, decide_false]
  by_cases c5 : op < 2
  · simp only [↓reduceIte, m_L03_ExprParts, h1, h2, c1, c2, c3, c4, c5, ln_map, ok_some', out_some, res_test, res_stop, uB_0, beq_self_eq_true, if_true, Bool.false_eq_true, if_false, decide_true, decide_false]
  by_cases c6 : op > 8
  · simp only [↓reduceIte, m_L03_ExprParts, h1, h2, c1, c2, c3, c4, c5, c6, ln_map, ok_some', out_some, res_test, res_stop, uB_0, beq_self_eq_true, if_true, Bool.false_eq_true, if_false, decide_true, decide_false]
  by_cases c7 : ((row.length : Nat) : Int) > 40
  · simp only [↓reduceIte, m_L03_ExprParts, h1, h2, c1, c2, c3, c4, c5, c6, c7, ln_map, ln_re, ok_some', out_some, res_test, res_stop, uB_0, beq_self_eq_true, if_true, Bool.false_eq_true, if_false, decide_true, decide_false]
  have htk : tk op = 2 := by unfold tk; rw [if_neg (by omega), if_neg (by omega), if_pos (by omega)]
  have r1 := Eval_res a ha row hrow
  have r2 := Eval_res b hb row hrow
  by_cases f1 : (evalV a row).2 = 30
  · have g1 : ((evalV a row).2 == 30) = true := by rw [f1]; rfl
    simp only [↓reduceIte, m_L03_ExprParts, h1, h2, c1, c2, c3, c4, c5, c6, c7, r1, r2, g1, ln_map, ln_re, ok_some', out_some, res_test, res_stop, uB_0, uI_0, uI_s, beq_self_eq_true, if_true, Bool.false_eq_true, if_false, decide_true, decide_false]
  by_cases f2 : (evalV b row).2 = 30
  · have g1 : ((evalV a row).2 == 30) = false := by rw [beq_eq_false_iff_ne]; exact f1
    have g2 : ((evalV b row).2 == 30) = true := by rw [f2]; rfl
    simp only [↓reduceIte, m_L03_ExprParts, h1, h2, c1, c2, c3, c4, c5, c6, c7, r1, r2, g1, g2, ln_map, ln_re, ok_some', out_some, res_test, res_stop, uB_0, uI_0, uI_s, beq_self_eq_true, if_true, Bool.false_eq_true, if_false, decide_true, decide_false]
  have g1 : ((evalV a row).2 == 30) = false := by rw [beq_eq_false_iff_ne]; exact f1
  have g2 : ((evalV b row).2 == 30) = false := by rw [beq_eq_false_iff_ne]; exact f2
  have z0 : i64 0 := by unfold i64; omega
  have z1 : i64 1 := by unfold i64; omega
  have dop : (Nd.mk op 0 nul).ok := ⟨hop, z0, nulE_ok⟩
  have hall : ∀ d ∈ a ++ b ++ [(⟨op, 0, nul⟩ : Nd)], d.ok := fun d hd => by
    rcases List.mem_append.1 hd with hd | hd
    · exact (List.mem_append.1 hd).elim (ha d) (hb d)
    · rw [List.mem_singleton] at hd; subst hd; exact dop
  have r3 := Eval_res _ hall row hrow
  obtain ⟨p1, p2, p3⟩ := parts a b op row (by omega) (by omega) htk f1 f2
  have hr2 : okR [(evalV a row).1, (evalV b row).1] := ⟨by simp, fun v hv => by
    simp only [List.mem_cons, List.not_mem_nil, or_false] at hv
    rcases hv with rfl | rfl
    · exact evalV_ok ha hrow.2
    · exact evalV_ok hb hrow.2⟩
  have r4 := REval_res [⟨0, 0, nul⟩, ⟨0, 1, nul⟩, ⟨op, 0, nul⟩] (fun d hd => by
    simp only [List.mem_cons, List.not_mem_nil, or_false] at hd
    rcases hd with rfl | rfl | rfl
    · exact ⟨z0, z0, nulE_ok⟩
    · exact ⟨z0, z1, nulE_ok⟩
    · exact dop) _ hr2
  have e1 : a.map Nd.e ++ b.map Nd.e ++ [[pI op, pI 0, pI 0, pI 0, pS { data := #[] }]] = (a ++ b ++ [(⟨op, 0, nul⟩ : Nd)]).map Nd.e := by rw [List.map_append, List.map_append]; rfl
  have e2 : ([[pI 0, pI 0, pI 0, pI 0, pS { data := #[] }], [pI 0, pI 1, pI 0, pI 0, pS { data := #[] }], [pI op, pI 0, pI 0, pI 0, pS { data := #[] }]] : List (List PV)) = [(⟨0, 0, nul⟩ : Nd), ⟨0, 1, nul⟩, ⟨op, 0, nul⟩].map Nd.e := rfl
  have e3 : ([[pI (evalV a row).1.k, pI (evalV a row).1.n, pS (bs (evalV a row).1.s)], [pI (evalV b row).1.k, pI (evalV b row).1.n, pS (bs (evalV b row).1.s)]] : List (List PV)) = re [(evalV a row).1, (evalV b row).1] := rfl
  have d1 : decide ((0 + (a.map Nd.e).length) * 48 ≤ 140737488355328) = true := by rw [decide_eq_true_eq, List.length_map]; omega
  have d2 : decide (((a.map Nd.e).length + (b.map Nd.e).length) * 48 ≤ 140737488355328) = true := by rw [decide_eq_true_eq, List.length_map, List.length_map]; omega
  have d3 : decide (((a.map Nd.e ++ b.map Nd.e).length + 1) * 48 ≤ 140737488355328) = true := by rw [decide_eq_true_eq, List.length_append, List.length_map, List.length_map]; omega
  by_cases k1 : (evalV a row).2 = 0
  · have n1 : ((evalV a row).2 != 0) = false := by rw [k1]; rfl
    by_cases k2 : (evalV b row).2 = 0
    · have n2 : ((evalV b row).2 != 0) = false := by rw [k2]; rfl
      rw [p3 k1 k2] at r3
      have q := eqV_cc (evalV [⟨0, 0, nul⟩, ⟨0, 1, nul⟩, ⟨op, 0, nul⟩] [(evalV a row).1, (evalV b row).1]).1 (evalV [⟨0, 0, nul⟩, ⟨0, 1, nul⟩, ⟨op, 0, nul⟩] [(evalV a row).1, (evalV b row).1]).1
      rw [decide_eq_true rfl] at q
      generalize evalV [⟨0, 0, nul⟩, ⟨0, 1, nul⟩, ⟨op, 0, nul⟩] [(evalV a row).1, (evalV b row).1] = R at *
      simp only [↓reduceIte, m_L03_ExprParts, h1, h2, c1, c2, c3, c4, c5, c6, c7, r1, r2, g1, g2, d1, d2, d3, e1, r3, n1, n2, e2, e3, r4, q, Bool.and_self, bs_toList, ln_map, ln_re, ok_some', out_some, res_test, res_stop, uB_0, uI_0, uI_s, uS_0, uS_s, beq_self_eq_true, if_true, Bool.false_eq_true, if_false, decide_true, decide_false]
    · have n2 : ((evalV b row).2 != 0) = true := by rw [bne_iff_ne]; exact k2
      have q := p2 k1 k2
      simp only [↓reduceIte, m_L03_ExprParts, h1, h2, c1, c2, c3, c4, c5, c6, c7, r1, r2, g1, g2, d1, d2, d3, e1, r3, n1, n2, q, ln_map, ln_re, ok_some', out_some, res_test, res_stop, uB_0, uI_0, uI_s, beq_self_eq_true, if_true, Bool.false_eq_true, if_false, decide_true, decide_false]
  · have n1 : ((evalV a row).2 != 0) = true := by rw [bne_iff_ne]; exact k1
    have q := p1 k1
    simp only [↓reduceIte, m_L03_ExprParts, h1, h2, c1, c2, c3, c4, c5, c6, c7, r1, r2, g1, g2, d1, d2, d3, e1, r3, n1, q, ln_map, ln_re, ok_some', out_some, res_test, res_stop, uB_0, uI_0, uI_s, beq_self_eq_true, if_true, Bool.false_eq_true, if_false, decide_true, decide_false]

set_option maxRecDepth 100000 in
theorem arg_parts {x : PV} (h : ArgGd Tryz.prog 27 x) : ∃ (a b : List Nd) (op : Int) (row : List Val), x = .agg [.lst 36 (a.map Nd.e), .lst 36 (b.map Nd.e), pI op, .lst 31 (re row)] ∧
    a.length ≤ 140737488355328 ∧ b.length ≤ 140737488355328 ∧ (∀ d ∈ a, d.ok) ∧ (∀ d ∈ b, d.ok) ∧ i64 op ∧ okR row := by
  have e : ArgGd Tryz.prog 27 x = ∃ xs, x = .agg xs ∧ Gds Tryz.prog [.sl 36, .sl 36, .int .i64, .sl 31] xs := by kernel_rfl
  rw [e] at h
  obtain ⟨xs, rfl, hg⟩ := h
  obtain ⟨hl, hg⟩ := gds_cells hg
  match xs, hl, hg with
  | [a, b, c, d], _, hg =>
    obtain ⟨a, rfl, a1, a2⟩ := gd_nodes (hg 0 (by decide))
    obtain ⟨b, rfl, b1, b2⟩ := gd_nodes (hg 1 (by decide))
    obtain ⟨n, rfl, hn⟩ := gd_int (hg 2 (by decide))
    obtain ⟨r, rfl, hr⟩ := gd_row (hg 3 (by decide))
    exact ⟨a, b, n, r, rfl, a1, b1, a2, b2, hn, hr⟩

end Go.Proofs.YthmljoalohpafaaGreatDoor
