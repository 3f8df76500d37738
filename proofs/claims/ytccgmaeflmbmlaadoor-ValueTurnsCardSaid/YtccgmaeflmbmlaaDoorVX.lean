/- Texts of this seat, one behind the other. -/
import Derived.Test.YtccgmaeflmbmlaaDoorKX
import Derived.Test.YtccgmaeflmbmlaaDoorTC
import Derived.Test.YtccgmaeflmbmlaaDoorGX
import Derived.Test.YtccgmaeflmbmlaaDoorSE
import Derived.SizedLaws
set_option linter.unusedVariables false
set_option linter.unusedSimpArgs false
namespace Go.Proofs.YtccgmaeflmbmlaaDoor
open Go Go.Pu

structure Val where
  k : Int
  n : Int
  s : List UInt8
  deriving DecidableEq

instance : Inhabited Val := ⟨⟨0, 0, []⟩⟩

def Val.e (v : Val) : List PV := [pI v.k, pI v.n, pS (bs v.s)]
def re (r : List Val) : List (List PV) := r.map Val.e

@[simp] theorem ln_re (r : List Val) : ln (re r) = r.length := ln_map _ _
theorem el_re (r : List Val) {i : Nat} (h : i < r.length) : el (re r) i = Val.e r[i] := el_map _ _ h

/-! the order of values, and of rows -/

def cmpB (a b : UInt8) : Int := Cmp.cmpI a.toNat b.toNat

theorem bytes_lst : ∀ a b : List UInt8, Lib.compareBytes a b = Cmp.lstC cmpB a b
  | [], [] => rfl
  | [], _ :: _ => rfl
  | _ :: _, [] => rfl
  | a :: xs, b :: ys => by
    simp only [Lib.compareBytes, Cmp.lstC, bytes_lst xs ys]
    have h : ∀ x y : UInt8, x < y ↔ (x.toNat : Int) < y.toNat := fun x y => by rw [UInt8.lt_iff_toNat_lt]; omega
    simp only [cmpB, Cmp.cmpI, Cmp.thn, h]
    (repeat' split) <;> first | rfl | (exfalso; omega) | simp_all

theorem cmpBytes : Cmp Lib.compareBytes := by
  have h1 : Cmp cmpB := Cmp.int.pull (fun x : UInt8 => (x.toNat : Int)) fun a b h => UInt8.toNat_inj.1 (by exact_mod_cast h)
  have h2 := h1.list
  have : Lib.compareBytes = Cmp.lstC cmpB := by funext a b; exact bytes_lst a b
  rw [this]; exact h2

def cmpV (a b : Val) : Int := Cmp.thn (Cmp.cmpI a.k b.k) (Cmp.thn (Cmp.cmpI a.n b.n) (Lib.compareBytes a.s b.s))

theorem cV : Cmp cmpV :=
  (Cmp.int.both (Cmp.int.both cmpBytes)).pull (fun v : Val => (v.k, v.n, v.s)) fun a b h => by
    obtain ⟨_, _, _⟩ := a; obtain ⟨_, _, _⟩ := b; simp only [Prod.mk.injEq] at h; obtain ⟨rfl, rfl, rfl⟩ := h; rfl

def cmpR : List Val → List Val → Int := Cmp.lstC cmpV
theorem cR : Cmp cmpR := cV.list

/-- may a value be? a row? -/
def mayV (v : Val) : Bool :=
  if v.k = 0 then v.n == 0 && v.s == [] else if v.k = 1 then (v.n == 0 || v.n == 1) && v.s == [] else if v.k = 2 then v.s == [] else v.k == 3 && v.n == 0 && decide (v.s.length ≤ 1000)
def mayR (r : List Val) : Bool := decide (r.length ≤ 40) && r.all mayV

/-! what a law is handed -/

def big : Nat := 140737488355328

theorem lst_map {α : Type} {f : α → List PV} {p : α → Prop} : ∀ {es : List (List PV)}, (∀ e ∈ es, ∃ a, e = f a ∧ p a) → ∃ l : List α, es = l.map f ∧ ∀ a ∈ l, p a
  | [], _ => ⟨[], rfl, fun _ h => by cases h⟩
  | e :: es, h => by
    obtain ⟨a, rfl, ha⟩ := h e (by simp)
    obtain ⟨l, rfl, hl⟩ := lst_map (es := es) fun e he => h e (by simp [he])
    exact ⟨a :: l, rfl, List.forall_mem_cons.2 ⟨ha, hl⟩⟩

theorem gd_int {P : Program} {x : PV} (h : Gd P (.int .i64) x) : ∃ n, x = pI n ∧ -9223372036854775808 ≤ n ∧ n < 9223372036854775808 := by
  cases h with
  | int _ n hn =>
    refine ⟨n, rfl, ?_⟩
    simp only [Lit.wf, IntKind.min, IntKind.max, IntKind.bits, IntKind.signed, Bool.and_eq_true, decide_eq_true_eq] at hn
    simp at hn
    omega

theorem gd_str {P : Program} {x : PV} (h : Gd P .str x) : ∃ s : List UInt8, x = pS (bs s) ∧ s.length ≤ big := by
  cases h with
  | str s hs => exact ⟨s.data.toList, rfl, Nat.le_trans (by rw [Array.length_toList]; exact hs) (by decide)⟩

theorem gd_lst {P : Program} {t : TypeId} {x : PV} (h : Gd P (.sl t) x) : ∃ es, x = .lst t es ∧ es.length * P.bytesOf t ≤ big ∧ ∀ e ∈ es, Gds P (kds P t) e := by
  cases h with
  | sl t es h1 h2 h3 h4 =>
    refine ⟨es, rfl, Nat.le_trans h1 (by decide), fun e he => ?_⟩
    obtain ⟨i, hi, rfl⟩ := List.mem_iff_getElem.1 he
    have e1 : es.getD i [] = es[i] := by simp [List.getD, hi]
    have g3 := h3 i hi
    have g4 := fun j => h4 i j hi
    rw [e1] at g3
    simp only [e1] at g4
    exact ⟨g3, g4⟩

def i64 (n : Int) : Prop := -9223372036854775808 ≤ n ∧ n < 9223372036854775808
def Val.ok (v : Val) : Prop := i64 v.k ∧ i64 v.n ∧ v.s.length ≤ big
def okR (r : List Val) : Prop := r.length ≤ 4398046511104 ∧ ∀ v ∈ r, v.ok
/-- cells, one by one -/
theorem gds_cells {P : Program} {ks : List Kd} {xs : List PV} (h : Gds P ks xs) : xs.length = ks.length ∧ ∀ j, j < ks.length → Gd P (ks.getD j .other) (xs.getD j .top) := ⟨h.len, h.gd⟩

theorem val_cells {a b c : PV} (h0 : Gd Tryd.prog (.int .i64) a) (h1 : Gd Tryd.prog (.int .i64) b) (h2 : Gd Tryd.prog .str c) : ∃ v : Val, a = pI v.k ∧ b = pI v.n ∧ c = pS (bs v.s) ∧ v.ok := by
  obtain ⟨k, rfl, k1⟩ := gd_int h0
  obtain ⟨n, rfl, n1⟩ := gd_int h1
  obtain ⟨s, rfl, s1⟩ := gd_str h2
  exact ⟨⟨k, n, s⟩, rfl, rfl, rfl, k1, n1, s1⟩

/-- a list of some cells, each of its kind -/
theorem gd_list {α : Type} {t : TypeId} {ks : List Kd} {b : Nat} {f : α → List PV} {p : α → Prop} (hk : kds Tryd.prog t = ks) (hb : Tryd.prog.bytesOf t = b) (hb1 : 32 ≤ b)
    (hc : ∀ e, Gds Tryd.prog ks e → ∃ a, e = f a ∧ p a) {x : PV} (h : Gd Tryd.prog (.sl t) x) : ∃ l : List α, x = .lst t (l.map f) ∧ l.length ≤ 4398046511104 ∧ ∀ a ∈ l, p a := by
  obtain ⟨es, rfl, h1, h2⟩ := gd_lst h
  rw [hk] at h2
  rw [hb] at h1
  obtain ⟨l, rfl, hl⟩ := lst_map fun e he => hc e (h2 e he)
  refine ⟨l, rfl, ?_, hl⟩
  rw [List.length_map] at h1
  have : l.length * 32 ≤ l.length * b := Nat.mul_le_mul_left _ hb1
  unfold big at h1
  omega

theorem gd_row {x : PV} (h : Gd Tryd.prog (.sl 25) x) : ∃ r : List Val, x = .lst 25 (re r) ∧ okR r := by
  obtain ⟨l, e, h1, h2⟩ := gd_list (f := Val.e) (p := Val.ok) (ks := [.int .i64, .int .i64, .str]) (b := 32) (by kernel_rfl) (by kernel_rfl) (by decide) (fun e he => by
    obtain ⟨hl, hg⟩ := gds_cells he
    match e, hl, hg with
    | [a, b, c], _, hg =>
      obtain ⟨v, rfl, rfl, rfl, hv⟩ := val_cells (hg 0 (by decide)) (hg 1 (by decide)) (hg 2 (by decide))
      exact ⟨v, rfl, hv⟩) h
  exact ⟨l, e, h1, h2⟩

end Go.Proofs.YtccgmaeflmbmlaaDoor

set_option linter.unusedVariables false
set_option linter.unusedSimpArgs false
namespace Go.Proofs.YtccgmaeflmbmlaaDoor
open Go Go.Pu

theorem cmp_Compare_int_res (a b : Int) : (m_cmp_Compare_int [.i a, .i b]).res = some (0, [.i (Cmp.cmpI a b)]) := by
  simp only [m_cmp_Compare_int, Cmp.cmpI, res_test, res_stop, bne_self_eq_false, Bool.false_eq_true, if_false, decide_eq_true_eq]
  split
  · rfl
  · split <;> rfl

theorem value_May_res (v : Val) : (m_value_May [.i v.k, .i v.n, .s (bs v.s)]).res = some (0, [.b (mayV v)]) := by
  simp only [m_value_May, mayV, res_test, res_stop, bs_toList, bs_size]
  by_cases h0 : v.k = 0
  · simp [h0]
  · by_cases h1 : v.k = 1
    · by_cases h2 : v.n = 0
      · simp [h1, h2]
      · by_cases h3 : v.n = 1 <;> simp [h1, h2, h3]
    · by_cases h2 : v.k = 2
      · simp [h2]
      · by_cases h3 : v.k = 3
        · have h5 : ((v.s.length : Int) ≤ 1000) ↔ v.s.length ≤ 1000 := by omega
          by_cases h4 : v.n = 0
          · simp [h3, h4, h5]
          · simp [h3, h4]
        · simp [h0, h1, h2, h3]

theorem R01_May_res (v : Val) : (m_R01_May [.i v.k, .i v.n, .s (bs v.s)]).res = some (0, [.b (mayV v)]) := by
  simp only [m_R01_May, mayV, res_test, res_stop, bs_toList, bs_size]
  by_cases h0 : v.k = 0
  · by_cases hs : v.s = []
    · by_cases h4 : v.n = 0
      · simp [h0, hs, h4]
      · by_cases h5 : 0 ≤ v.n
        · have : ¬ v.n ≤ 0 := by omega
          simp [h0, hs, h4, h5, this]
        · simp [h0, hs, h4, h5]
    · simp [h0, hs]
  · by_cases h1 : v.k = 1
    · by_cases hs : v.s = []
      · by_cases h5 : 0 ≤ v.n
        · by_cases h6 : v.n ≤ 1
          · have : v.n = 0 ∨ v.n = 1 := by omega
            rcases this with h | h <;> simp [h1, hs, h]
          · have h7 : ¬ v.n = 0 := by omega
            have h8 : ¬ v.n = 1 := by omega
            simp [h1, hs, h5, h6, h7, h8]
        · have h7 : ¬ v.n = 0 := by omega
          have h8 : ¬ v.n = 1 := by omega
          simp [h1, hs, h5, h7, h8]
      · simp [h1, hs]
    · by_cases h2 : v.k = 2
      · simp [h2]
      · by_cases h3 : v.k = 3
        · have h5 : ((v.s.length : Int) ≤ 1000) ↔ v.s.length ≤ 1000 := by omega
          by_cases h4 : v.n = 0
          · simp [h3, h4, h5]
          · simp [h3, h4]
        · simp [h0, h1, h2, h3]

theorem value_Compare_res (v w : Val) : (m_value_Compare [.i v.k, .i v.n, .s (bs v.s), .i w.k, .i w.n, .s (bs w.s)]).res = some (0, [.i (cmpV v w)]) := by
  have hl : ∀ x y z : Int, lres rd_value_Compare_47_3 [.i 0, .l [[pI x], [pI y], [pI z]], .i 3, .i 0] = if Cmp.thn x (Cmp.thn y z) = 0 then some (1, [.i 0]) else some (0, [.i (Cmp.thn x (Cmp.thn y z))]) := by
    intro x y z
    have s1 : ∀ i : Int, i = 0 ∨ i = 1 ∨ i = 2 → (rd_value_Compare_47_3 [.i 0, .l [[pI x], [pI y], [pI z]], .i 3, .i i]).val =
        if cI (el [[pI x], [pI y], [pI z]] i) 0 = 0 then some (.next [.i 0, .l [[pI x], [pI y], [pI z]], .i 3, .i (i + 1)]) else some (.stop 0 [.i (cI (el [[pI x], [pI y], [pI z]] i) 0)]) := by
      intro i hi
      have h1 : i < 3 := by omega
      have h2 : inR i (ln [[pI x], [pI y], [pI z]]) = true := by rw [inR_iff]; simp [ln]; omega
      have h3 : w64 (i + 1) = i + 1 := w64_eq (by omega) (by omega)
      simp only [rd_value_Compare_47_3, rt_test, rt_stop, rt_next, h1, h2, h3, decide_true, if_true]
      by_cases h : cI (el [[pI x], [pI y], [pI z]] i) 0 = 0 <;> simp [h]
    have s3 : (rd_value_Compare_47_3 [.i 0, .l [[pI x], [pI y], [pI z]], .i 3, .i 3]).val = some (.stop 1 [.i 0]) := by simp [rd_value_Compare_47_3]
    have e0 : cI (el [[pI x], [pI y], [pI z]] 0) 0 = x := rfl
    have e1 : cI (el [[pI x], [pI y], [pI z]] 1) 0 = y := rfl
    have e2 : cI (el [[pI x], [pI y], [pI z]] 2) 0 = z := rfl
    have t0 := s1 0 (by omega)
    have t1 := s1 1 (by omega)
    have t2 := s1 2 (by omega)
    rw [e0] at t0; rw [e1] at t1; rw [e2] at t2
    unfold Cmp.thn
    by_cases hx : x = 0
    · rw [if_pos hx] at t0
      rw [lres_next t0]
      by_cases hy : y = 0
      · rw [if_pos hy] at t1
        rw [show (0 : Int) + 1 = 1 from rfl, lres_next t1]
        by_cases hz : z = 0
        · rw [if_pos hz] at t2
          rw [show (1 : Int) + 1 = 2 from rfl, lres_next t2, show (2 : Int) + 1 = 3 from rfl, lres_stop s3]
          simp [hx, hy, hz]
        · rw [if_neg hz] at t2
          rw [show (1 : Int) + 1 = 2 from rfl, lres_stop t2]
          simp [hx, hy, hz]
      · rw [if_neg hy] at t1
        rw [show (0 : Int) + 1 = 1 from rfl, lres_stop t1]
        simp [hx, hy]
    · rw [if_neg hx] at t0
      rw [lres_stop t0]
      simp [hx]
  simp only [m_value_Compare, cmp_Compare_int_res, hl, res_test, ok_some', out_some, uI_0, bs_data, beq_self_eq_true, if_true, cmpV]
  split <;> rename_i h <;> simp [h]

end Go.Proofs.YtccgmaeflmbmlaaDoor

set_option linter.unusedVariables false
set_option linter.unusedSimpArgs false
set_option linter.constructorNameAsVariable false
namespace Go.Proofs.YtccgmaeflmbmlaaDoor
open Go Go.Pu

theorem law_of_row {P : Program} {X : Ext} {M : FuncId → Bool} {L : FuncId → Nat → Option (List Nat)} {f : FuncId} {S : FSp} {m : List U → Rt} {xs : List PV} {us : List U} (hX : X f = some (gF S m)) (hd : decs S.ap (nrms S.ap xs) = some us)
    (ha : S.ah = []) (ho : S.outs = [([.one .b], [])]) (hr : (m us).res = some (0, [.b true])) : ∃ n hc, call P X M L n f xs [] = some (.bool true, hc) := by
  refine ⟨1, [], ?_⟩
  simp only [call, hX, gF, gW, hd, ha, decH, fU_eq, List.append_nil, ho, outsTr, Tr.val, hr, ok_some', out_some, beq_self_eq_true, if_true]
  rfl

set_option maxRecDepth 100000 in
theorem arg_sl {t e : TypeId} {x : PV} (hu : kdOf Tryd.prog t = .sl e) (h1 : ArgGd Tryd.prog t x = Gd Tryd.prog (kdOf Tryd.prog t) x) (h : ArgGd Tryd.prog t x) : Gd Tryd.prog (.sl e) x := by
  rw [h1, hu] at h; exact h

set_option maxRecDepth 100000 in
theorem arg_int {x : PV} (h : ArgGd Tryd.prog 3 x) : ∃ n, x = pI n ∧ i64 n := by
  have e : ArgGd Tryd.prog 3 x = Gd Tryd.prog (.int .i64) x := by kernel_rfl
  rw [e] at h
  exact gd_int h

set_option maxRecDepth 100000 in
theorem arg_val {x : PV} (h : ArgGd Tryd.prog 25 x) : ∃ v : Val, x = .agg v.e ∧ v.ok := by
  have e : ArgGd Tryd.prog 25 x = ∃ xs, x = .agg xs ∧ Gds Tryd.prog [.int .i64, .int .i64, .str] xs := by kernel_rfl
  rw [e] at h
  obtain ⟨xs, rfl, hg⟩ := h
  obtain ⟨hl, hg⟩ := gds_cells hg
  match xs, hl, hg with
  | [a, b, c], _, hg =>
    obtain ⟨v, rfl, rfl, rfl, hv⟩ := val_cells (hg 0 (by decide)) (hg 1 (by decide)) (hg 2 (by decide))
    exact ⟨v, rfl, hv⟩

set_option maxRecDepth 100000 in
theorem arg_vals {x : PV} (h : ArgGd Tryd.prog 22 x) : ∃ l : List Val, x = .lst 25 (re l) ∧ okR l := by
  have e : ArgGd Tryd.prog 22 x = Gd Tryd.prog (.sl 25) x := by kernel_rfl
  rw [e] at h
  exact gd_row h

set_option maxRecDepth 100000 in
theorem arg_bool {x : PV} (h : ArgGd Tryd.prog 4 x) : ∃ b, x = pB b := by
  have e : ArgGd Tryd.prog 4 x = Gd Tryd.prog .bool x := by kernel_rfl
  rw [e] at h
  cases h with
  | bool b => exact ⟨b, rfl⟩

end Go.Proofs.YtccgmaeflmbmlaaDoor

set_option linter.unusedVariables false
set_option linter.unusedSimpArgs false
namespace Go.Proofs.YtccgmaeflmbmlaaDoor
open Go Go.Pu

/-- equal, field by field -/
theorem eqV_c (v : Val) (a b : Int) (c : List UInt8) : (v.k == a && (v.n == b && (v.s == c && true))) = decide (v = ⟨a, b, c⟩) := by
  obtain ⟨d, e, f⟩ := v
  rw [Bool.eq_iff_iff]; simp
theorem eqV_c' (v : Val) (a b : Int) (c : List UInt8) : (a == v.k && (b == v.n && (c == v.s && true))) = decide (⟨a, b, c⟩ = v) := by
  obtain ⟨d, e, f⟩ := v
  rw [Bool.eq_iff_iff]; simp
theorem eta (v : Val) : (⟨v.k, v.n, v.s⟩ : Val) = v := rfl

def tru (b : Bool) : Val := ⟨1, if b then 1 else 0, []⟩
def nul : Val := ⟨0, 0, []⟩
def intV (n : Int) : Val := ⟨2, n, []⟩
def Val.u (v : Val) : List U := [.i v.k, .i v.n, .s (bs v.s)]

theorem Truth_res (b : Bool) : (m_value_Truth [.b b]).res = some (0, (tru b).u) := by
  cases b <;> simp [m_value_Truth, tru, Val.u, bs]

theorem RTruth_res (b : Bool) : (m_R01_Truth [.b b]).res = some (0, (tru b).u) := by
  cases b <;> simp [m_R01_Truth, tru, Val.u, bs]

def notV (v : Val) : Val := if v = tru true then tru false else if v = tru false then tru true else nul

theorem Not_res (v : Val) : (m_value_Not v.u).res = some (0, (notV v).u) := by
  obtain ⟨k, n, s⟩ := v
  simp only [m_value_Not, notV, tru, Val.u, Val.mk.injEq, res_test, res_stop, bs_toList]
  by_cases h1 : k = 1 <;> by_cases h2 : n = 1 <;> by_cases h3 : n = 0 <;> by_cases h4 : s = [] <;> simp [h1, h2, h3, h4, nul, bs] <;> omega

theorem RNot_res (v : Val) : (m_R01_Not v.u).res = some (0, (notV v).u) := by
  obtain ⟨k, n, s⟩ := v
  simp only [m_R01_Not, notV, tru, Val.u, Val.mk.injEq, res_test, res_stop, bs_toList]
  by_cases h1 : k = 1 <;> by_cases h2 : n = 1 <;> by_cases h3 : n = 0 <;> by_cases h4 : s = [] <;> simp [h1, h2, h3, h4, nul, bs] <;> omega

theorem Index_res (l : List Val) (hl : l.length ≤ 4398046511104) (v : Val) : ∃ n : Int, (m_slices_Index_ [.l (re l), .i v.k, .i v.n, .s (bs v.s)]).res = some (0, [.i n]) ∧ (0 ≤ n ↔ v ∈ l) := by
  have h := loop_all l (rd := rd_slices_Index__84_2) (fun i => [.l (re l), .i l.length, .i (i : Nat), .i v.k, .i v.n, .s (bs v.s)]) (fun x => !decide (v = x)) 0 1 (fun i => [.i (i : Nat)]) []
    (by simp [rd_slices_Index__84_2, re]) (by
    intro i h
    simp only [rd_slices_Index__84_2, re, el_map _ _ h, rt_test, rt_stop, rt_next, ln_map, Val.e, cI_p, cI_s, cS_s, cS_p, bs_toList, inR_cast, eqV_c, eta, w64_succ (i := i) (by omega), Int.ofNat_lt, h, decide_true, if_true]
    by_cases e : v = l[i] <;> simp [e])
  simp only [Int.natCast_zero, re] at h
  simp only [m_slices_Index_, re, ln_map]
  rcases h with ⟨h1, h2⟩ | ⟨h1, i, hi, hp, _, h2⟩
  · refine ⟨-1, by simp [h2], ?_⟩
    have : ¬ v ∈ l := fun hm => by simpa using List.all_eq_true.1 h1 v hm
    simp [this]
  · refine ⟨i, by simp [h2], ?_⟩
    have : v = l[i] := by simpa using hp
    have hm : v ∈ l := by rw [this]; exact List.getElem_mem hi
    simp [hm]

theorem Contains_res (l : List Val) (hl : l.length ≤ 4398046511104) (v : Val) : (m_slices_Contains_ [.l (re l), .i v.k, .i v.n, .s (bs v.s)]).res = some (0, [.b (decide (v ∈ l))]) := by
  obtain ⟨n, h1, h2⟩ := Index_res l hl v
  simp only [m_slices_Contains_, h1, ok_some', out_some, uI_0, res_test, res_stop, beq_self_eq_true, if_true, ge_iff_le, h2]

/-- And (strong = false), Or (strong = true) -/
def foldV (strong : Bool) (l : List Val) : Val := if tru strong ∈ l then tru strong else if ∀ x ∈ l, x = tru (!strong) then tru (!strong) else nul

theorem fold_res (b : Bool) (l : List Val) (hl : l.length ≤ 4398046511104) : (m_value_fold [.b b, .l (re l)]).res = some (0, (foldV b l).u) := by
  have hT := Truth_res b
  have hT2 := Truth_res (!b)
  have hC := Contains_res l hl (tru b)
  have h := loop_all l (rd := rd_value_fold_85_2) (fun i => [.l (re l), .i l.length, .i (i : Nat), .i (tru (!b)).k, .i (tru (!b)).n, .s (bs (tru (!b)).s)]) (fun x => decide (x = tru (!b))) 0 1
    (fun i => [.i (i : Nat), .i (tru (!b)).k, .i (tru (!b)).n, .s (bs (tru (!b)).s)]) [.i (tru (!b)).k, .i (tru (!b)).n, .s (bs (tru (!b)).s)]
    (by simp [rd_value_fold_85_2, re]) (by
    intro i h
    simp only [rd_value_fold_85_2, re, el_map _ _ h, rt_test, rt_stop, rt_next, ln_map, Val.e, cI_p, cI_s, cS_s, cS_p, bs_toList, inR_cast, eqV_c, eta, w64_succ (i := i) (by omega), Int.ofNat_lt, h, decide_true, if_true]
    by_cases e : l[i] = tru (!b) <;> simp [e])
  simp only [Int.natCast_zero, re] at h
  simp only [re] at hC
  simp only [m_value_fold, re, ln_map, hT, hT2, Val.u, ok_some', out_some, uI_0, uI_s, uS_s, uS_0, uB_0, hC, res_test, res_stop, beq_self_eq_true, if_true, foldV]
  by_cases e : tru b ∈ l
  · simp [e]
  · simp only [e, decide_false, Bool.false_eq_true, if_false]
    rcases h with ⟨h1, h2⟩ | ⟨h1, i, hi, hp, _, h2⟩
    · have : ∀ x ∈ l, x = tru (!b) := fun x hx => by simpa using List.all_eq_true.1 h1 x hx
      rw [if_pos this]; simp [h2]
    · have : ¬ ∀ x ∈ l, x = tru (!b) := fun hh => by simp [hh _ (List.getElem_mem hi)] at hp
      rw [if_neg this]; simp [h2, nul, bs_nil]

theorem And_res (l : List Val) (hl : l.length ≤ 4398046511104) : (m_value_And [.l (re l)]).res = some (0, (foldV false l).u) := by
  simp [m_value_And, fold_res false l hl, Val.u]
theorem Or_res (l : List Val) (hl : l.length ≤ 4398046511104) : (m_value_Or [.l (re l)]).res = some (0, (foldV true l).u) := by
  simp [m_value_Or, fold_res true l hl, Val.u]

end Go.Proofs.YtccgmaeflmbmlaaDoor

set_option linter.unusedVariables false
set_option linter.unusedSimpArgs false
namespace Go.Proofs.YtccgmaeflmbmlaaDoor
open Go Go.Pu

def in64 (n : Int) : Bool := decide (-9223372036854775808 ≤ n ∧ n < 9223372036854775808)

/-- what is done to two numbers: null, too large, or a number -/
def arith (f : Int → Int → Int) (v w : Val) : Val × Bool :=
  if v.k = 0 ∨ w.k = 0 then (nul, true) else if v.k ≠ 2 ∨ w.k ≠ 2 then (nul, false) else if in64 (f v.n w.n) then (intV (f v.n w.n), true) else (nul, false)
def addV : Val → Val → Val × Bool := arith (· + ·)
def subV : Val → Val → Val × Bool := arith (· - ·)
def mulV : Val → Val → Val × Bool := arith (· * ·)
def ru (r : Val × Bool) : List U := [.i r.1.k, .i r.1.n, .s (bs r.1.s), .b r.2]

theorem w64_def (n : Int) : w64 n = (n + 9223372036854775808) % 18446744073709551616 - 9223372036854775808 := by
  unfold w64; rw [IntKind.wrap_i64]
theorem w64_in {n : Int} (h : in64 n = true) : w64 n = n := by
  have := of_decide_eq_true h
  exact w64_eq this.1 this.2

theorem add_ok (a b : Int) (ha : i64 a) (hb : i64 b) : ((decide (w64 (a + b) > a) == decide (b > 0)) || decide (b = 0)) = in64 (a + b) := by
  unfold i64 at ha hb
  rw [Bool.eq_iff_iff]
  simp only [Bool.or_eq_true, beq_iff_eq, decide_eq_decide, decide_eq_true_eq, in64, w64_def]
  omega
theorem sub_ok (a b : Int) (ha : i64 a) (hb : i64 b) : ((decide (w64 (a - b) < a) == decide (b > 0)) || decide (b = 0)) = in64 (a - b) := by
  unfold i64 at ha hb
  rw [Bool.eq_iff_iff]
  simp only [Bool.or_eq_true, beq_iff_eq, decide_eq_decide, decide_eq_true_eq, in64, w64_def]
  omega

theorem Add_res (v w : Val) (hv : v.ok) (hw : w.ok) : (m_value_Add [.i v.k, .i v.n, .s (bs v.s), .i w.k, .i w.n, .s (bs w.s)]).res = some (0, ru (addV v w)) := by
  have h := add_ok v.n w.n hv.2.1 hw.2.1
  simp only [m_value_Add, addV, arith, res_test, res_stop]
  by_cases h1 : v.k = 0
  · simp [h1, ru, nul, bs_nil]
  by_cases h2 : w.k = 0
  · simp [h1, h2, ru, nul, bs_nil]
  by_cases h3 : v.k = 2
  · by_cases h4 : w.k = 2
    · by_cases h6 : w.n = 0
      · have h5 : in64 (v.n + w.n) = true := by rw [← h]; simp [h6]
        have e := w64_in h5
        simp [h3, h4, h5, h6, e, ru, intV, bs_nil]
        simp [h6] at e h5
        simp [h5, e]
      · by_cases h5 : in64 (v.n + w.n) = true
        · have e := w64_in h5
          simp only [h6, decide_false, Bool.or_false, h5, e] at h
          simp [h3, h4, h5, e, ru, intV, bs_nil] at h ⊢
          simp [h]
        · have h5 : in64 (v.n + w.n) = false := by simpa using h5
          simp only [h6, decide_false, Bool.or_false, h5] at h
          simp only [h3, h4, h5, ru, nul, bs_nil, h]
          simp [h6]
    · simp [h1, h2, h3, h4, ru, nul, bs_nil]
  · simp [h1, h2, h3, ru, nul, bs_nil]

theorem Sub_res (v w : Val) (hv : v.ok) (hw : w.ok) : (m_value_Sub [.i v.k, .i v.n, .s (bs v.s), .i w.k, .i w.n, .s (bs w.s)]).res = some (0, ru (subV v w)) := by
  have h := sub_ok v.n w.n hv.2.1 hw.2.1
  simp only [m_value_Sub, subV, arith, res_test, res_stop]
  by_cases h1 : v.k = 0
  · simp [h1, ru, nul, bs_nil]
  by_cases h2 : w.k = 0
  · simp [h1, h2, ru, nul, bs_nil]
  by_cases h3 : v.k = 2
  · by_cases h4 : w.k = 2
    · by_cases h6 : w.n = 0
      · have h5 : in64 (v.n - w.n) = true := by rw [← h]; simp [h6]
        have e := w64_in h5
        simp [h3, h4, h5, h6, e, ru, intV, bs_nil]
        simp [h6] at e h5
        simp [h5, e]
      · by_cases h5 : in64 (v.n - w.n) = true
        · have e := w64_in h5
          simp only [h6, decide_false, Bool.or_false, h5, e] at h
          simp [h3, h4, h5, e, ru, intV, bs_nil] at h ⊢
          simp [h]
        · have h5 : in64 (v.n - w.n) = false := by simpa using h5
          simp only [h6, decide_false, Bool.or_false, h5] at h
          simp only [h3, h4, h5, ru, nul, bs_nil, h]
          simp [h6]
    · simp [h1, h2, h3, h4, ru, nul, bs_nil]
  · simp [h1, h2, h3, ru, nul, bs_nil]

theorem amount_res (n : Int) (hn : i64 n) : (m_value_amount [.i n]).res = some (0, [.i n.natAbs]) := by
  unfold i64 at hn
  simp only [m_value_amount, res_test, res_stop, decide_eq_true_eq, IntKind.wrap_u64]
  split
  · congr 4; omega
  · congr 4; omega

theorem mul_natAbs (a b : Int) : ((a.natAbs : Int) * (b.natAbs : Int)) = if (decide (a < 0) == decide (b < 0)) then a * b else -(a * b) := by
  by_cases ha : a < 0 <;> by_cases hb : b < 0
  · rw [Int.ofNat_natAbs_of_nonpos (by omega), Int.ofNat_natAbs_of_nonpos (by omega), Int.neg_mul_neg]; simp [ha, hb]
  · rw [Int.ofNat_natAbs_of_nonpos (by omega), Int.natAbs_of_nonneg (by omega), Int.neg_mul]; simp [ha, hb]
  · rw [Int.natAbs_of_nonneg (by omega), Int.ofNat_natAbs_of_nonpos (by omega), Int.mul_neg]; simp [ha, hb]
  · rw [Int.natAbs_of_nonneg (by omega), Int.natAbs_of_nonneg (by omega)]; simp [ha, hb]

/-- the test that Mul makes -/
theorem mul_ok (a b : Int) (p : Int) (hp0 : 0 ≤ p) (hp : p = if (decide (a < 0) == decide (b < 0)) then a * b else -(a * b)) :
    ((p / 18446744073709551616 == 0) && (decide (p % 18446744073709551616 < 9223372036854775808) || (p % 18446744073709551616 == 9223372036854775808 && !(decide (a < 0) == decide (b < 0))))) = in64 (a * b) := by
  generalize (decide (a < 0) == decide (b < 0)) = q at *
  generalize a * b = m at *
  rw [Bool.eq_iff_iff]
  simp only [Bool.and_eq_true, Bool.or_eq_true, beq_iff_eq, decide_eq_true_eq, in64, Bool.not_eq_true']
  cases q
  · simp only [Bool.false_eq_true, if_false] at hp
    simp; omega
  · simp only [if_true] at hp
    simp; omega

theorem Mul_res (v w : Val) (hv : v.ok) (hw : w.ok) : (m_value_Mul [.i v.k, .i v.n, .s (bs v.s), .i w.k, .i w.n, .s (bs w.s)]).res = some (0, ru (mulV v w)) := by
  have a1 := amount_res v.n hv.2.1
  have a2 := amount_res w.n hw.2.1
  have h0 := mul_natAbs v.n w.n
  have hm := mul_ok v.n w.n _ (Int.mul_nonneg (Int.natCast_nonneg _) (Int.natCast_nonneg _)) h0
  have u1 : inU64 (v.n.natAbs : Int) = true := by
    have := hv.2.1; unfold i64 at this
    unfold inU64; simp only [decide_eq_true_eq]; omega
  have u2 : inU64 (w.n.natAbs : Int) = true := by
    have := hw.2.1; unfold i64 at this
    unfold inU64; simp only [decide_eq_true_eq]; omega
  simp only [m_value_Mul, mulV, arith, res_test, res_stop, a1, a2, ok_some', out_some, uI_0, beq_self_eq_true, if_true, u1, u2, Bool.and_self, mulHi, mulLo]
  by_cases h1 : v.k = 0
  · simp [h1, ru, nul, bs_nil]
  by_cases h2 : w.k = 0
  · simp [h1, h2, ru, nul, bs_nil]
  by_cases h3 : v.k = 2
  · by_cases h4 : w.k = 2
    · generalize (decide (v.n < 0) == decide (w.n < 0)) = q at hm ⊢
      generalize ((v.n.natAbs : Int) * (w.n.natAbs : Int)) = p at hm ⊢
      have key : ∀ (A B C : Bool) (x y : Rs), (if A = true then if B = true then x else if C = true then (if (!!q) = true then y else x) else y else y) = if (A && (B || (C && !q))) = true then x else y := by
        intro A B C x y
        cases A <;> cases B <;> cases C <;> cases q <;> rfl
      simp only [h3, h4]
      simp only [bne_self_eq_false, Bool.false_eq_true, if_false, show ((2 : Int) == 0) = false from rfl, show ¬ (2 : Int) = 0 by decide, or_self, ne_eq, not_true_eq_false]
      rw [key, hm]
      by_cases h5 : in64 (v.n * w.n) = true
      · simp [h5, w64_in h5, ru, intV, bs_nil]
      · simp [h5, ru, nul, bs_nil]
    · simp [h1, h2, h3, h4, ru, nul, bs_nil]
  · simp [h1, h2, h3, ru, nul, bs_nil]

end Go.Proofs.YtccgmaeflmbmlaaDoor

set_option linter.unusedVariables false
set_option linter.unusedSimpArgs false
namespace Go.Proofs.YtccgmaeflmbmlaaDoor
open Go Go.Pu

theorem arith_int (f : Int → Int → Int) (a b : Int) : arith f (intV a) (intV b) = if in64 (f a b) then (intV (f a b), true) else (nul, false) := by
  unfold arith intV; simp
theorem intV_ok {a : Int} (h : i64 a) : (intV a).ok := ⟨by simp [intV, i64], h, by simp [intV]⟩
theorem nul_ok : nul.ok := ⟨by simp [nul, i64], by simp [nul, i64], by simp [nul]⟩
theorem i64_of {n : Int} (h : in64 n = true) : i64 n := by unfold i64; unfold in64 at h; exact of_decide_eq_true h

theorem Add_int (a b : Int) (ha : i64 a) (hb : i64 b) : (m_value_Add [.i 2, .i a, .s (bs []), .i 2, .i b, .s (bs [])]).res = some (0, ru (addV (intV a) (intV b))) := Add_res (intV a) (intV b) (intV_ok ha) (intV_ok hb)
theorem Sub_int (a b : Int) (ha : i64 a) (hb : i64 b) : (m_value_Sub [.i 2, .i a, .s (bs []), .i 2, .i b, .s (bs [])]).res = some (0, ru (subV (intV a) (intV b))) := Sub_res (intV a) (intV b) (intV_ok ha) (intV_ok hb)
theorem Mul_int (a b : Int) (ha : i64 a) (hb : i64 b) : (m_value_Mul [.i 2, .i a, .s (bs []), .i 2, .i b, .s (bs [])]).res = some (0, ru (mulV (intV a) (intV b))) := Mul_res (intV a) (intV b) (intV_ok ha) (intV_ok hb)

theorem valueSums_res (a b : Int) (ha : i64 a) (hb : i64 b) : (m_L01_ValueSums [.i a, .i b]).res = some (0, [.b true]) := by
  have h1 := Add_int a b ha hb
  have h2 := Add_int b a hb ha
  have h3 := Mul_int a b ha hb
  have h4 := Mul_int b a hb ha
  have e1 : mulV (intV b) (intV a) = mulV (intV a) (intV b) := by simp only [mulV, arith_int, Int.mul_comm]
  have e2 : addV (intV b) (intV a) = addV (intV a) (intV b) := by simp only [addV, arith_int, Int.add_comm]
  rw [e1] at h4
  rw [e2] at h2
  have hab : ∀ r, addV (intV a) (intV b) = r → r = (if in64 (a + b) then (intV (a + b), true) else (nul, false)) := fun r h => by rw [← h, addV, arith_int]
  simp only [m_L01_ValueSums, bs_nil, h1, h2, h3, h4, ok_some', out_some, res_test, res_stop, beq_self_eq_true, if_true, ru, uI_0, uI_s, uS_s, uS_0, uB_s, uB_0, bs_toList, Bool.and_true, Bool.not_true, Bool.false_eq_true, if_false, Bool.and_self]
  generalize hr : addV (intV a) (intV b) = r
  have := hab r hr
  by_cases h5 : in64 (a + b) = true
  · rw [if_pos h5] at this
    subst this
    have h6 := i64_of h5
    have h7 : in64 (a + b - b) = true := by rw [Int.add_sub_cancel]; exact decide_eq_true ha
    have s1 := Sub_int (a + b) b h6 hb
    rw [subV, arith_int, if_pos h7] at s1
    simp only [intV, ru] at s1 ⊢
    simp only [s1, ok_some', out_some, Bool.not_true, Bool.false_eq_true, if_false, beq_self_eq_true, if_true, uB_s, uB_0, uI_0, uI_s, uS_s, uS_0, bs_toList, Int.add_sub_cancel, Bool.and_self]
    by_cases c1 : b > 0
    · have c4 : ¬ a + b ≤ a := by omega
      simp [c1, c4]
    · by_cases c2 : b < 0
      · have c4 : a + b < a := by omega
        simp [c1, c2, c4]
      · have : b = 0 := by omega
        simp [this]
  · rw [if_neg h5] at this
    subst this
    have hh : ¬ (-9223372036854775808 ≤ a + b ∧ a + b < 9223372036854775808) := fun h => h5 (decide_eq_true h)
    unfold i64 at ha hb
    have c1 : (a > 0) = (b > 0) := by
      apply propext; omega
    have c2 : ¬ a = 0 := by omega
    have c3 : ¬ b = 0 := by omega
    simp [nul, c1, c2, c3]

theorem valueMuls_res (a b c : Int) (ha : i64 a) (hb : i64 b) (hc : i64 c) : (m_L01_ValueMuls [.i a, .i b, .i c]).res = some (0, [.b true]) := by
  simp only [m_L01_ValueMuls, res_test, res_stop, decide_eq_true_eq]
  by_cases g1 : a > 1000000
  · simp [g1]
  by_cases g2 : b > 1000000
  · simp [g2]
  by_cases g3 : c > 1000000
  · simp [g3]
  by_cases g4 : a < -1000000
  · simp [g4]
  by_cases g5 : b < -1000000
  · simp [g5]
  by_cases g6 : c < -1000000
  · simp [g6]
  have bnd : ∀ x y : Int, -2000000 ≤ x → x ≤ 2000000 → -2000000 ≤ y → y ≤ 2000000 → -4000000000000 ≤ x * y ∧ x * y ≤ 4000000000000 := by
    intro x y h1 h2 h3 h4
    have k1 : 0 ≤ (2000000 - x) * (2000000 + y) := Int.mul_nonneg (by omega) (by omega)
    have k2 : 0 ≤ (2000000 + x) * (2000000 - y) := Int.mul_nonneg (by omega) (by omega)
    have k3 : 0 ≤ (2000000 - x) * (2000000 - y) := Int.mul_nonneg (by omega) (by omega)
    have k4 : 0 ≤ (2000000 + x) * (2000000 + y) := Int.mul_nonneg (by omega) (by omega)
    simp only [Int.sub_mul, Int.mul_add, Int.add_mul, Int.mul_sub] at k1 k2 k3 k4
    omega
  have in_ : ∀ x : Int, -8000000000000 ≤ x → x ≤ 8000000000000 → in64 x = true := fun x h1 h2 => decide_eq_true (by omega)
  have b1 := bnd a (b + c) (by omega) (by omega) (by omega) (by omega)
  have b2 := bnd a b (by omega) (by omega) (by omega) (by omega)
  have b3 := bnd a c (by omega) (by omega) (by omega) (by omega)
  have i1 : in64 (b + c) = true := in_ _ (by omega) (by omega)
  have i2 : in64 (a * (b + c)) = true := in_ _ (by omega) (by omega)
  have i3 : in64 (a * b) = true := in_ _ (by omega) (by omega)
  have i4 : in64 (a * c) = true := in_ _ (by omega) (by omega)
  have i5 : in64 (a * b + a * c) = true := in_ _ (by omega) (by omega)
  have h0 := Add_int b c hb hc
  have h1 := Mul_int a (b + c) ha (i64_of i1)
  have h2 := Mul_int a b ha hb
  have h3 := Mul_int a c ha hc
  have h4 := Add_int (a * b) (a * c) (i64_of i3) (i64_of i4)
  have h5 := Mul_int a 0 ha (by simp [i64])
  have h6 := Mul_int 1 a (by simp [i64]) ha
  rw [addV, arith_int, if_pos i1] at h0
  rw [mulV, arith_int, if_pos i2] at h1
  rw [mulV, arith_int, if_pos i3] at h2
  rw [mulV, arith_int, if_pos i4] at h3
  rw [addV, arith_int, if_pos i5] at h4
  rw [mulV, arith_int, if_pos (by rw [Int.mul_zero]; rfl), Int.mul_zero] at h5
  rw [mulV, arith_int, if_pos (by rw [Int.one_mul]; exact decide_eq_true ha), Int.one_mul] at h6
  simp only [ru, intV] at h0 h1 h2 h3 h4 h5 h6
  simp only [if_neg g1, if_neg g2, if_neg g3, if_neg g4, if_neg g5, if_neg g6, bs_nil, h0, h1, h2, h3, h4, h5, h6, ok_some', out_some, beq_self_eq_true, if_true, uI_0, uI_s, uS_s, uS_0, uB_s, uB_0, bs_toList, Bool.and_self, Int.mul_add]

theorem valueOrder_res (u v w : Val) (hu : u.ok) (hv : v.ok) (hw : w.ok) : (m_L01_ValueOrder [.i u.k, .i u.n, .s (bs u.s), .i v.k, .i v.n, .s (bs v.s), .i w.k, .i w.n, .s (bs w.s)]).res = some (0, [.b true]) := by
  have h1 := value_Compare_res u v
  have h2 := value_Compare_res v w
  have h3 := value_Compare_res u w
  have h4 := value_Compare_res v u
  have r1 := cV.rng u v
  have a1 := cV.anti u v
  have t1 := cV.trans u v w
  have z1 := cV.zero u v
  have z2 := cV.zero v w
  have z3 := cV.zero u w
  have t2 := fun h => cV.lt_of_lt_of_le (a := u) (b := v) (d := w) h
  have t3 := fun h => cV.lt_of_le_of_lt (a := u) (b := v) (d := w) h
  simp only [m_L01_ValueOrder, h1, h2, h3, h4, ok_some', out_some, res_test, res_stop, beq_self_eq_true, if_true, uI_0, bs_size, bs_toList, eqV_c, eta, decide_eq_true_eq]
  have e0 : w64 (0 - cmpV v u) = cmpV u v := by rw [w64_eq (by omega) (by omega)]; omega
  rw [e0]
  have e1 : ((cmpV u v == 0) == decide (u = v)) = true := by
    rw [beq_iff_eq, Bool.eq_iff_iff]; simp [z1]
  simp only [e1, bne_self_eq_false, Bool.false_eq_true, if_false, Bool.not_true]
  generalize cmpV u v = x at *
  generalize cmpV v w = y at *
  generalize cmpV u w = z at *
  have n1 : ¬ x < -1 := by omega
  have n2 : ¬ x > 1 := by omega
  simp only [n1, n2, if_false]
  by_cases c1 : x ≤ 0
  · by_cases c2 : y ≤ 0
    · have c3 := t1 c1 c2
      by_cases c4 : x = 0
      · have : u = v := z1.1 c4
        have e2 : (z == 0) = (y == 0) := by rw [Bool.eq_iff_iff]; simp; rw [z3, z2, this]
        simp [c4, c2, c3, e2]
      · have c5 : z < 0 := t2 (by omega) c2
        have : ¬ z = 0 := by omega
        simp [c1, c2, c3, c4, this]
    · simp [c1, c2]
  · simp [c1]

end Go.Proofs.YtccgmaeflmbmlaaDoor

set_option linter.unusedVariables false
set_option linter.unusedSimpArgs false
namespace Go.Proofs.YtccgmaeflmbmlaaDoor
open Go Go.Pu

theorem RAnd_res (l : List Val) (hl : l.length ≤ 4398046511104) : (m_R01_And [.l (re l)]).res = some (0, (foldV false l).u) := by
  have key : ∀ n i, i + n = l.length → ∀ b : Bool, (∀ j (h : j < l.length), j < i → l[j] ≠ tru false) → (b = true ↔ ∀ j (h : j < l.length), j < i → l[j] = tru true) →
      (m_R01_And [.l (re l)]).res = some (0, (foldV false l).u) ∨ lres rd_R01_And_18_3 [.l (re l), .b b, .i (i : Nat), .i 0, .i 0, .s (bs [])] = (if tru false ∈ l then some (0, (tru false).u) else some (1, [.b (decide (∀ x ∈ l, x = tru true)), .i 0, .i 0, .s (bs [])])) := by
    intro n
    induction n with
    | zero =>
      intro i hi b h1 h2
      right
      have hi : i = l.length := by omega
      subst hi
      have hn : tru false ∉ l := fun hm => by
        obtain ⟨j, hj, e⟩ := List.mem_iff_getElem.1 hm
        exact h1 j hj hj e
      have hb : b = decide (∀ x ∈ l, x = tru true) := by
        rw [Bool.eq_iff_iff, h2, decide_eq_true_eq]
        constructor
        · intro h x hx
          obtain ⟨j, hj, rfl⟩ := List.mem_iff_getElem.1 hx
          exact h j hj hj
        · intro h j hj _
          exact h _ (List.getElem_mem hj)
      rw [if_neg hn, ← hb]
      refine lres_stop ?_
      simp [rd_R01_And_18_3, re]
    | succ n ih =>
      intro i hi b h1 h2
      have h : i < l.length := by omega
      have rd : (rd_R01_And_18_3 [.l (re l), .b b, .i (i : Nat), .i 0, .i 0, .s (bs [])]).val = if l[i] = tru false then some (.stop 0 (tru false).u) else some (.next [.l (re l), .b (b && decide (l[i] = tru true)), .i ((i + 1 : Nat) : Int), .i 0, .i 0, .s (bs [])]) := by
        simp only [rd_R01_And_18_3, re, el_map _ _ h, rt_test, rt_stop, rt_next, ln_map, Val.e, cI_p, cI_s, cS_s, cS_p, bs_toList, inR_cast, eqV_c, eta, w64_succ (i := i) (by omega), Int.ofNat_lt, h, decide_true, if_true, bs_nil, decide_eq_true_eq]
        rw [show (⟨1, 0, []⟩ : Val) = tru false from rfl, show (⟨1, 1, []⟩ : Val) = tru true from rfl]
        by_cases e : l[i] = tru false
        · simp [e, tru, Val.u]
        · simp only [e, if_false]
          cases b <;> simp
      by_cases e : l[i] = tru false
      · right
        rw [if_pos e] at rd
        rw [lres_stop rd, if_pos (by rw [← e]; exact List.getElem_mem h)]
      · rw [if_neg e] at rd
        rcases ih (i + 1) (by omega) (b && decide (l[i] = tru true)) (fun j hj hji => by
          by_cases ej : j = i
          · subst ej; exact e
          · exact h1 j hj (by omega)) (by
          rw [Bool.and_eq_true, h2, decide_eq_true_eq]
          constructor
          · rintro ⟨g1, g2⟩ j hj hji
            by_cases ej : j = i
            · subst ej; exact g2
            · exact g1 j hj (by omega)
          · intro g
            exact ⟨fun j hj hji => g j hj (by omega), g i h (by omega)⟩) with h3 | h3
        · exact .inl h3
        · right
          rw [lres_next rd, h3]
  rcases key l.length 0 (by omega) true (fun j _ h => by omega) (by simp) with h | h
  · exact h
  · simp only [Int.natCast_zero, bs_nil] at h
    by_cases e : tru false ∈ l
    · rw [if_pos e] at h
      have f1 : foldV false l = tru false := by unfold foldV; rw [if_pos e]
      rw [f1]
      simp only [m_R01_And, bs_nil, h, ok_some', out_some, res_test, res_stop, beq_self_eq_true, if_true, Val.u, uI_0, uI_s, uS_s, uS_0]
    · rw [if_neg e] at h
      by_cases e2 : ∀ x ∈ l, x = tru true
      · have f1 : foldV false l = tru true := by unfold foldV; rw [if_neg e]; exact if_pos e2
        rw [f1]
        simp only [m_R01_And, bs_nil, h, ok_some', out_some, res_test, res_stop, show ((0 : Nat) == 1) = false from rfl, Bool.false_eq_true, if_false, beq_self_eq_true, if_true, uB_0, decide_eq_true e2]
        rfl
      · have f1 : foldV false l = nul := by unfold foldV; rw [if_neg e]; exact if_neg e2
        rw [f1]
        simp only [m_R01_And, bs_nil, h, ok_some', out_some, res_test, res_stop, show ((0 : Nat) == 1) = false from rfl, Bool.false_eq_true, if_false, beq_self_eq_true, if_true, uB_0, decide_eq_false e2]
        rfl

theorem ROr_res (l : List Val) (hl : l.length ≤ 4398046511104) : (m_R01_Or [.l (re l)]).res = some (0, (foldV true l).u) := by
  have key : ∀ n i, i + n = l.length → ∀ b : Bool, (∀ j (h : j < l.length), j < i → l[j] ≠ tru true) → (b = true ↔ ∀ j (h : j < l.length), j < i → l[j] = tru false) →
      lres rd_R01_Or_20_3 [.l (re l), .b b, .i (i : Nat), .i 0, .i 0, .s (bs [])] = (if tru true ∈ l then some (0, (tru true).u) else some (1, [.b (decide (∀ x ∈ l, x = tru false)), .i 0, .i 0, .s (bs [])])) := by
    intro n
    induction n with
    | zero =>
      intro i hi b h1 h2
      have hi : i = l.length := by omega
      subst hi
      have hn : tru true ∉ l := fun hm => by
        obtain ⟨j, hj, e⟩ := List.mem_iff_getElem.1 hm
        exact h1 j hj hj e
      have hb : b = decide (∀ x ∈ l, x = tru false) := by
        rw [Bool.eq_iff_iff, h2, decide_eq_true_eq]
        constructor
        · intro h x hx
          obtain ⟨j, hj, rfl⟩ := List.mem_iff_getElem.1 hx
          exact h j hj hj
        · intro h j hj _
          exact h _ (List.getElem_mem hj)
      rw [if_neg hn, ← hb]
      refine lres_stop ?_
      simp [rd_R01_Or_20_3, re]
    | succ n ih =>
      intro i hi b h1 h2
      have h : i < l.length := by omega
      have rd : (rd_R01_Or_20_3 [.l (re l), .b b, .i (i : Nat), .i 0, .i 0, .s (bs [])]).val = if l[i] = tru true then some (.stop 0 (tru true).u) else some (.next [.l (re l), .b (b && decide (l[i] = tru false)), .i ((i + 1 : Nat) : Int), .i 0, .i 0, .s (bs [])]) := by
        simp only [rd_R01_Or_20_3, re, el_map _ _ h, rt_test, rt_stop, rt_next, ln_map, Val.e, cI_p, cI_s, cS_s, cS_p, bs_toList, inR_cast, eqV_c, eta, w64_succ (i := i) (by omega), Int.ofNat_lt, h, decide_true, if_true, bs_nil, decide_eq_true_eq]
        rw [show (⟨1, 0, []⟩ : Val) = tru false from rfl, show (⟨1, 1, []⟩ : Val) = tru true from rfl]
        by_cases e : l[i] = tru true
        · simp [e, tru, Val.u]
        · simp only [e, if_false]
          cases b <;> simp
      by_cases e : l[i] = tru true
      · rw [if_pos e] at rd
        rw [lres_stop rd, if_pos (by rw [← e]; exact List.getElem_mem h)]
      · rw [if_neg e] at rd
        rw [lres_next rd]
        exact ih (i + 1) (by omega) (b && decide (l[i] = tru false)) (fun j hj hji => by
          by_cases ej : j = i
          · subst ej; exact e
          · exact h1 j hj (by omega)) (by
          rw [Bool.and_eq_true, h2, decide_eq_true_eq]
          constructor
          · rintro ⟨g1, g2⟩ j hj hji
            by_cases ej : j = i
            · subst ej; exact g2
            · exact g1 j hj (by omega)
          · intro g
            exact ⟨fun j hj hji => g j hj (by omega), g i h (by omega)⟩)
  have h := key l.length 0 (by omega) true (fun j _ h => by omega) (by simp)
  simp only [Int.natCast_zero, bs_nil] at h
  by_cases e : tru true ∈ l
  · rw [if_pos e] at h
    have f1 : foldV true l = tru true := by unfold foldV; rw [if_pos e]
    rw [f1]
    simp only [m_R01_Or, bs_nil, h, ok_some', out_some, res_test, res_stop, beq_self_eq_true, if_true, Val.u, uI_0, uI_s, uS_s, uS_0]
  · rw [if_neg e] at h
    by_cases e2 : ∀ x ∈ l, x = tru false
    · have f1 : foldV true l = tru false := by unfold foldV; rw [if_neg e]; exact if_pos e2
      rw [f1]
      simp only [m_R01_Or, bs_nil, h, ok_some', out_some, res_test, res_stop, show ((0 : Nat) == 1) = false from rfl, Bool.false_eq_true, if_false, beq_self_eq_true, if_true, uB_0, decide_eq_true e2]
      rfl
    · have f1 : foldV true l = nul := by unfold foldV; rw [if_neg e]; exact if_neg e2
      rw [f1]
      simp only [m_R01_Or, bs_nil, h, ok_some', out_some, res_test, res_stop, show ((0 : Nat) == 1) = false from rfl, Bool.false_eq_true, if_false, beq_self_eq_true, if_true, uB_0, decide_eq_false e2]
      rfl

theorem valueLogic_res (l : List Val) (hl : l.length ≤ 4398046511104) (b : Bool) : (m_L01_ValueLogic [.l (re l), .b b]).res = some (0, [.b true]) := by
  have hN := fun v : Val => Not_res v
  have hR := fun v : Val => RNot_res v
  simp only [Val.u] at hN hR
  have h := loop_acc (rd := rd_L01_ValueLogic_3_4) l.length (fun i => [.l (re l), .b b, .i (i : Nat)]) (some (1, [.l (re l), .b b]))
    (lres_stop (by simp [rd_L01_ValueLogic_3_4, re])) (by
    intro i h
    simp only [rd_L01_ValueLogic_3_4, re, el_map _ _ h, rt_test, rt_stop, rt_next, ln_map, Val.e, cI_p, cI_s, cS_s, cS_p, bs_toList, inR_cast, w64_succ (i := i) (by omega), Int.ofNat_lt, h, decide_true, if_true, hN, hR, ok_some', out_some, beq_self_eq_true, uI_0, uI_s, uS_s, uS_0, Bool.and_self, Bool.not_true, Bool.false_eq_true, if_false])
  simp only [Int.natCast_zero] at h
  have h1 := And_res l hl
  have h2 := Or_res l hl
  have h3 := RAnd_res l hl
  have h4 := ROr_res l hl
  have h5 := Truth_res b
  have h6 := RTruth_res b
  simp only [Val.u] at h1 h2 h3 h4 h5 h6
  by_cases g : (l.length : Int) > 100
  · simp only [m_L01_ValueLogic, ln_re, decide_eq_true g, res_test, if_true, res_stop]
  · simp only [m_L01_ValueLogic, ln_re, decide_eq_false g, Bool.false_eq_true, if_false, res_test, res_stop, h, ok_some', out_some, uL_0, uB_s, uB_0, h1, h2, h3, h4, h5, h6, uI_0, uI_s, uS_s, uS_0, show ((0 : Nat) == 1) = false from rfl, beq_self_eq_true, if_true, Bool.and_self]

end Go.Proofs.YtccgmaeflmbmlaaDoor

set_option linter.unusedVariables false
set_option linter.unusedSimpArgs false
namespace Go.Proofs.YtccgmaeflmbmlaaDoor
open Go Go.Pu

theorem tru_ne (b : Bool) : tru b ≠ tru (!b) := by cases b <;> decide
theorem tru_nul (b : Bool) : tru b ≠ nul := by cases b <;> decide

theorem fold_t (b : Bool) (l : List Val) : foldV b l = tru b ↔ tru b ∈ l := by
  unfold foldV
  split
  · rename_i h; simp [h]
  · rename_i h
    split
    · simp only [h, iff_false]; exact fun e => tru_ne b e.symm
    · simp only [h, iff_false]; exact fun e => tru_nul b e.symm
theorem fold_f (b : Bool) (l : List Val) : foldV b l = tru (!b) ↔ ∀ x ∈ l, x = tru (!b) := by
  unfold foldV
  split
  · rename_i h
    constructor
    · intro e; exact absurd e (tru_ne b)
    · intro e; exact e _ h
  · split
    · rename_i h; simp only [true_iff]; exact h
    · rename_i h; simp only [h, iff_false]; exact fun e => tru_nul (!b) e.symm
theorem fold_n (b : Bool) {l : List Val} (h1 : ¬ tru b ∈ l) (h2 : ¬ ∀ x ∈ l, x = tru (!b)) : foldV b l = nul := by
  unfold foldV; rw [if_neg h1, if_neg h2]

theorem fold_app (b : Bool) (l m : List Val) : foldV b (l ++ m) = foldV b [foldV b l, foldV b m] := by
  by_cases h1 : tru b ∈ l ++ m
  · rw [(fold_t b _).2 h1]
    symm
    rw [fold_t]
    rcases List.mem_append.1 h1 with h | h
    · simp [(fold_t b l).2 h]
    · simp [(fold_t b m).2 h]
  · have g1 : ¬ tru b ∈ [foldV b l, foldV b m] := by
      intro h
      rcases List.mem_cons.1 h with e | h
      · exact h1 (List.mem_append_left _ ((fold_t b l).1 e.symm))
      · exact h1 (List.mem_append_right _ ((fold_t b m).1 (List.mem_singleton.1 h).symm))
    by_cases h2 : ∀ x ∈ l ++ m, x = tru (!b)
    · rw [(fold_f b _).2 h2]
      symm
      rw [fold_f]
      intro x hx
      rcases List.mem_cons.1 hx with rfl | hx
      · exact (fold_f b l).2 fun y hy => h2 y (List.mem_append_left _ hy)
      · rw [List.mem_singleton.1 hx]
        exact (fold_f b m).2 fun y hy => h2 y (List.mem_append_right _ hy)
    · rw [fold_n b h1 h2, fold_n b g1]
      intro h
      apply h2
      intro x hx
      rcases List.mem_append.1 hx with hx | hx
      · exact (fold_f b l).1 (h _ (by simp)) x hx
      · exact (fold_f b m).1 (h _ (by simp)) x hx

theorem fold_comm (b : Bool) (x y : Val) : foldV b [x, y] = foldV b [y, x] := by
  have h : ∀ z, z ∈ [x, y] ↔ z ∈ [y, x] := fun z => by simp [or_comm]
  unfold foldV
  simp only [h]

theorem not_iff (b : Bool) (x : Val) : notV x = tru b ↔ x = tru (!b) := by
  unfold notV
  cases b
  · split
    · rename_i h; simp [h]
    · rename_i h
      split
      · simp only [Bool.not_false, h, iff_false]; decide
      · simp only [Bool.not_false, h, iff_false]; decide
  · split
    · rename_i h; subst h; decide
    · split
      · rename_i h; simp [h]
      · rename_i h; simp only [Bool.not_true, h, iff_false]; decide

theorem not_tru (b : Bool) : notV (tru b) = tru (!b) := by rw [not_iff, Bool.not_not]
theorem not_nul : notV nul = nul := by decide

theorem fold_not (b : Bool) (l : List Val) : notV (foldV b l) = foldV (!b) (l.map notV).reverse := by
  have m1 : tru (!b) ∈ (l.map notV).reverse ↔ tru b ∈ l := by
    rw [List.mem_reverse, List.mem_map]
    constructor
    · rintro ⟨x, hx, e⟩
      rw [not_iff, Bool.not_not] at e
      rw [← e]; exact hx
    · intro h; exact ⟨_, h, not_tru b⟩
  have m2 : (∀ x ∈ (l.map notV).reverse, x = tru (!!b)) ↔ ∀ x ∈ l, x = tru (!b) := by
    constructor
    · intro h x hx
      have := h (notV x) (List.mem_reverse.2 (List.mem_map.2 ⟨x, hx, rfl⟩))
      rw [Bool.not_not, not_iff] at this
      exact this
    · intro h x hx
      obtain ⟨y, hy, rfl⟩ := List.mem_map.1 (List.mem_reverse.1 hx)
      rw [h y hy, not_tru]
  by_cases h1 : tru b ∈ l
  · rw [(fold_t b l).2 h1, not_tru]
    exact ((fold_t (!b) _).2 (m1.2 h1)).symm
  · by_cases h2 : ∀ x ∈ l, x = tru (!b)
    · rw [(fold_f b l).2 h2, not_tru]
      exact ((fold_f (!b) _).2 (m2.2 h2)).symm
    · rw [fold_n b h1 h2, not_nul, fold_n (!b) (fun h => h1 (m1.1 h)) (fun h => h2 (m2.1 h))]

theorem valueTurns_res (l m : List Val) (hl : l.length ≤ 4398046511104) (hm : m.length ≤ 4398046511104) : (m_L01_ValueTurns [.l (re l), .l (re m)]).res = some (0, [.b true]) := by
  simp only [m_L01_ValueTurns, res_test, res_stop, decide_eq_true_eq, ln_re]
  by_cases g1 : (l.length : Int) > 60
  · simp [g1]
  by_cases g2 : (m.length : Int) > 60
  · simp [g2]
  simp only [if_neg g1, if_neg g2]
  have hN := fun v : Val => Not_res v
  simp only [Val.u] at hN
  have h := loop_ix (l.length + m.length) (rd := rd_L01_ValueTurns_4_5)
    (fun i => [.l (re l), .l (re m), .i (i : Nat), .l (re ((l ++ m).take i)), .l (re (((l ++ m).take i).map notV).reverse)])
    (fun i => decide ((l ++ m).getD i nul = tru true ∨ (l ++ m).getD i nul = tru false ∨ (l ++ m).getD i nul = nul)) 0 1 (fun _ => [.b true]) [.l (re l), .l (re m), .l (re (l ++ m)), .l (re ((l ++ m).map notV).reverse)]
    (by
      have e1 : w64 ((l.length : Int) + (m.length : Int)) = ((l.length + m.length : Nat) : Int) := by rw [w64_eq (by omega) (by omega)]; omega
      simp only [rd_L01_ValueTurns_4_5, ln_re, e1, Int.lt_irrefl, decide_false, rt_test, Bool.false_eq_true, if_false, rt_stop]
      rw [List.take_of_length_le (by simp)]) (by
    intro i hi _
    have e1 : w64 ((l.length : Int) + (m.length : Int)) = ((l.length + m.length : Nat) : Int) := by rw [w64_eq (by omega) (by omega)]; omega
    have hlm : i < (l ++ m).length := by simpa using hi
    have hget : (l ++ m).getD i nul = (l ++ m)[i] := by rw [List.getD, List.getElem?_eq_getElem hlm]; rfl
    have htk : (l ++ m).take (i + 1) = (l ++ m).take i ++ [(l ++ m)[i]] := by rw [List.take_add_one, List.getElem?_eq_getElem hlm]; rfl
    have hb1 : ((re ((l ++ m).take i)).length + 1) * 32 ≤ 140737488355328 := by simp [re]; omega
    have hb2 : (1 + (re (((l ++ m).take i).map notV).reverse).length) * 32 ≤ 140737488355328 := by simp [re]; omega
    have n1 : re (((l ++ m).take i ++ [(l ++ m)[i]])) = re ((l ++ m).take i) ++ [[pI (l ++ m)[i].k, pI (l ++ m)[i].n, pS (bs (l ++ m)[i].s)]] := by unfold re; rw [List.map_append]; rfl
    have n2 : re ((((l ++ m).take i ++ [(l ++ m)[i]]).map notV).reverse) = [[pI (notV (l ++ m)[i]).k, pI (notV (l ++ m)[i]).n, pS (bs (notV (l ++ m)[i]).s)]] ++ re (((l ++ m).take i).map notV).reverse := by unfold re; rw [List.map_append, List.reverse_append, List.map_append]; rfl
    rw [hget, htk, n1, n2]
    generalize hA : re ((l ++ m).take i) = A at *
    generalize hB : re (((l ++ m).take i).map notV).reverse = B at *
    have lt1 : ((i : Int) < ((l.length + m.length : Nat) : Int)) := by omega
    simp only [rd_L01_ValueTurns_4_5, ln_re, e1, lt1, decide_true, rt_test, if_true, w64_succ (i := i) (by omega)]
    have key : ∀ (x : Val) (Y Z : Option Rv), (if (!decide (x = ⟨1, 1, []⟩)) = true then (if (!decide (x = ⟨1, 0, []⟩)) = true then (if (!decide (x = ⟨0, 0, []⟩)) = true then Z else Y) else Y) else Y) = if decide (x = tru true ∨ x = tru false ∨ x = nul) = true then Y else Z := by
      intro x Y Z
      rw [show (⟨1, 1, []⟩ : Val) = tru true from rfl, show (⟨1, 0, []⟩ : Val) = tru false from rfl, show (⟨0, 0, []⟩ : Val) = nul from rfl]
      by_cases a1 : x = tru true <;> by_cases a2 : x = tru false <;> by_cases a3 : x = nul <;> simp [a1, a2, a3]
    by_cases hil : i < l.length
    · have ex : (l ++ m)[i] = l[i] := List.getElem_append_left hil
      have lt2 : ((i : Int) < (l.length : Int)) := by omega
      rw [ex]
      simp only [lt2, decide_true, if_true, inR_cast, hil, re, el_map _ _ hil, Val.e, cI_p, cI_s, cS_s, cS_p, bs_toList, eqV_c, eta, hb1, hb2, hN, ok_some', out_some, uI_0, uI_s, uS_s, uS_0, beq_self_eq_true, rt_next, rt_stop]
      exact key _ _ _
    · have hj : i - l.length < m.length := by omega
      have ex : (l ++ m)[i] = m[i - l.length] := List.getElem_append_right (by omega)
      have lt2 : ¬ ((i : Int) < (l.length : Int)) := by omega
      have e3 : w64 ((i : Int) - (l.length : Int)) = ((i - l.length : Nat) : Int) := by rw [w64_eq (by omega) (by omega)]; omega
      rw [ex]
      simp only [lt2, decide_false, Bool.false_eq_true, if_false, e3, inR_cast, hj, decide_true, if_true, re, el_map _ _ hj, Val.e, cI_p, cI_s, cS_s, cS_p, bs_toList, eqV_c, eta, hb1, hb2, hN, ok_some', out_some, uI_0, uI_s, uS_s, uS_0, beq_self_eq_true, rt_next, rt_stop]
      exact key _ _ _)
  simp only [Int.natCast_zero, List.take_zero, List.map_nil, List.reverse_nil] at h
  rw [show re [] = [] from rfl] at h
  rcases h with ⟨_, h⟩ | ⟨i, _, _, _, h⟩
  · have L : (l ++ m).length ≤ 4398046511104 := by simp; omega
    have L2 : ((l ++ m).map notV).reverse.length ≤ 4398046511104 := by simp; omega
    have a1 := And_res _ L
    have a2 := Or_res _ L
    have a3 := Or_res _ L2
    have a4 := And_res _ L2
    have a5 := And_res l hl
    have a6 := And_res m hm
    have a7 := Or_res l hl
    have a8 := Or_res m hm
    have a9 := And_res [foldV false l, foldV false m] (by simp)
    have a10 := Or_res [foldV true m, foldV true l] (by simp)
    have n1 := Not_res (foldV false (l ++ m))
    have n2 := Not_res (foldV true (l ++ m))
    have e1 := fold_not false (l ++ m)
    have e2 := fold_not true (l ++ m)
    have e3 := fold_app false l m
    have e4 : foldV true (l ++ m) = foldV true [foldV true m, foldV true l] := by rw [fold_app, fold_comm]
    rw [show re [foldV false l, foldV false m] = [[pI (foldV false l).k, pI (foldV false l).n, pS (bs (foldV false l).s)], [pI (foldV false m).k, pI (foldV false m).n, pS (bs (foldV false m).s)]] from rfl] at a9
    rw [show re [foldV true m, foldV true l] = [[pI (foldV true m).k, pI (foldV true m).n, pS (bs (foldV true m).s)], [pI (foldV true l).k, pI (foldV true l).n, pS (bs (foldV true l).s)]] from rfl] at a10
    rw [Bool.not_false] at e1
    rw [Bool.not_true] at e2
    simp only [Val.u] at *
    simp only [h, ok_some', out_some, uL_0, uL_s, a1, a2, a3, a4, a5, a6, a7, a8, a9, a10, n1, n2, uI_0, uI_s, uS_s, uS_0, beq_self_eq_true, if_true, bs_toList, eqV_c, eta, e1, e2, decide_true, show ((1 : Nat) == 0) = false from rfl, show ((0 : Nat) == 1) = false from rfl, Bool.false_eq_true, if_false]
    rw [← e3, ← e4]
    simp
  · simp only [h, ok_some', out_some, uB_0, beq_self_eq_true, if_true]

end Go.Proofs.YtccgmaeflmbmlaaDoor

set_option linter.unusedVariables false
set_option linter.unusedSimpArgs false
namespace Go.Proofs.YtccgmaeflmbmlaaDoor
open Go Go.Pu

def dbl (s : List UInt8) : List UInt8 := s.flatMap fun b => if b = 39 then [39, 39] else [b]
@[simp] theorem dbl_nil : dbl [] = [] := rfl
theorem dbl_cons (b : UInt8) (s : List UInt8) : dbl (b :: s) = (if b = 39 then [39, 39] else [b]) ++ dbl s := by simp [dbl]
theorem dbl_app (s t : List UInt8) : dbl (s ++ t) = dbl s ++ dbl t := by simp [dbl]
theorem dbl_same {s : List UInt8} (h : (39 : UInt8) ∉ s) : dbl s = s := by
  induction s with
  | nil => rfl
  | cons b s ih =>
    rw [dbl_cons, ih (fun h' => h (List.mem_cons_of_mem _ h')), if_neg (fun e => h (by rw [e]; exact List.mem_cons_self ..))]
    rfl
theorem dbl_len (s : List UInt8) : (dbl s).length ≤ 2 * s.length := by
  induction s with
  | nil => simp
  | cons b s ih => rw [dbl_cons]; split <;> simp <;> omega

theorem ixb_none {s : List UInt8} {c : UInt8} (h : c ∉ s) : Lib.indexByte s c = -1 := by
  induction s with
  | nil => rfl
  | cons b s ih =>
    unfold Lib.indexByte
    have hb : ¬ b = c := fun e => h (by rw [e]; exact List.mem_cons_self ..)
    rw [ih (fun h' => h (List.mem_cons_of_mem _ h'))]
    simp [hb]

theorem ixb_at {p q : List UInt8} {c : UInt8} (h : c ∉ p) : Lib.indexByte (p ++ c :: q) c = p.length := by
  induction p with
  | nil => simp [Lib.indexByte]
  | cons b p ih =>
    have hb : ¬ b = c := fun e => h (by rw [e]; exact List.mem_cons_self ..)
    have h2 := ih (fun h' => h (List.mem_cons_of_mem _ h'))
    rw [List.cons_append]
    unfold Lib.indexByte
    rw [h2]
    have : ((p.length : Int) == -1) = false := by rw [beq_eq_false_iff_ne]; omega
    simp [hb, this]

theorem repl_dbl : ∀ (n : Nat) (s : List UInt8) (fuel : Nat), s.length ≤ n → s.length < fuel → Lib.replaceK [39] [39, 39] (Lib.countFrom [39] fuel s) s = dbl s ∧ Lib.countFrom [39] fuel s ≤ s.length := by
  intro n
  induction n with
  | zero =>
    intro s fuel h1 h2
    have : s = [] := List.eq_nil_of_length_eq_zero (by omega)
    subst this
    cases fuel with
    | zero => omega
    | succ fuel => exact ⟨rfl, Nat.le_refl _⟩
  | succ n ih =>
    intro s fuel h1 h2
    cases fuel with
    | zero => omega
    | succ fuel =>
      by_cases hm : (39 : UInt8) ∈ s
      · obtain ⟨p, q, rfl, hp⟩ := List.eq_append_cons_of_mem hm
        have hi : Lib.index (p ++ 39 :: q) [39] = (p.length : Nat) := by rw [Lib.index_one, ixb_at hp]
        have hne : ((p.length : Int) == -1) = false := by rw [beq_eq_false_iff_ne]; omega
        have hd : (p ++ 39 :: q).drop (p.length + 1) = q := by
          rw [← List.drop_drop, List.drop_left]; rfl
        simp only [List.length_append, List.length_cons] at h1 h2
        obtain ⟨k1, k2⟩ := ih q fuel (by omega) (by omega)
        have hc : Lib.countFrom [39] (fuel + 1) (p ++ 39 :: q) = Lib.countFrom [39] fuel q + 1 := by
          rw [Lib.countFrom, hi, hne]
          simp only [Bool.false_eq_true, if_false, Int.toNat_natCast, List.length_singleton, hd]
          omega
        rw [hc]
        refine ⟨?_, by simp only [List.length_append, List.length_cons]; omega⟩
        rw [Lib.replaceK_hit _ _ _ _ p.length hi, List.take_left, List.length_singleton, hd, k1, dbl_app, dbl_cons, if_pos rfl, dbl_same hp]
        simp
      · have hi : Lib.index s [39] = -1 := by rw [Lib.index_one, ixb_none hm]
        have hc : Lib.countFrom [39] (fuel + 1) s = 0 := by rw [Lib.countFrom, hi]; rfl
        rw [hc, dbl_same hm]
        exact ⟨rfl, Nat.zero_le _⟩

theorem replB_dbl (s : List UInt8) : replB (bs s) (bs [39]) (bs [39, 39]) = bs (dbl s) := by
  have h := (repl_dbl s.length s (s.length + 1) (Nat.le_refl _) (by omega)).1
  have e1 : ([39] == ([39, 39] : List UInt8)) = false := by decide
  show (⟨(Lib.replaceAll s [39] [39, 39]).toArray⟩ : ByteArray) = _
  unfold Lib.replaceAll Lib.replace Lib.replaceNum
  simp only [e1, Bool.false_eq_true, if_false, show ((-1 : Int) < 0) from by decide, true_or, if_true]
  unfold Lib.count
  rw [h]
  rfl

theorem replOk_of {s : List UInt8} (h : s.length ≤ 100000) : replOk (bs s) (bs [39]) (bs [39, 39]) = true := by
  have h2 := (repl_dbl s.length s (s.length + 1) (Nat.le_refl _) (by omega)).2
  have h3 : Lib.countB (bs s) (bs [39]) = Lib.countFrom [39] (s.length + 1) s := rfl
  unfold replOk
  rw [decide_eq_true_eq]
  simp only [bs_size, List.length_cons, List.length_nil]
  rw [h3]
  omega

/-- a value's text -/
def txt (v : Val) : List UInt8 :=
  if v.k = 0 then [110, 117, 108, 108] else if v.k = 1 then (if v.n ≠ 0 then [116, 114, 117, 101] else [102, 97, 108, 115, 101]) else if v.k = 2 then Lib.itoa v.n else if v.k = 3 then 39 :: (dbl v.s ++ [39]) else [63]

theorem bs_app (a b : List UInt8) : bs a ++ bs b = bs (a ++ b) := by
  apply ByteArray.ext
  simp [bs, ByteArray.data_append]

theorem bs_lit (l : List UInt8) : ({ data := l.toArray } : ByteArray) = bs l := rfl
theorem itoaB_bs (n : Int) : itoaB n = bs (Lib.itoa n) := rfl

theorem FormatBool_res (b : Bool) : (m_strconv_FormatBool [.b b]).res = some (0, [.s (bs (if b then [116, 114, 117, 101] else [102, 97, 108, 115, 101]))]) := by
  cases b <;> simp [m_strconv_FormatBool, bs]

theorem Text_res (v : Val) (hv : v.ok) (hs : v.s.length ≤ 100000) : (m_value_Text [.i v.k, .i v.n, .s (bs v.s)]).res = some (0, [.s (bs (txt v))]) := by
  have h1 := FormatBool_res (v.n != 0)
  have h2 := replOk_of hs
  have h3 := replB_dbl v.s
  have h4 : inI64 v.n = true := by
    have := hv.2.1; unfold i64 at this; unfold inI64; rw [decide_eq_true_eq]; omega
  have h5 := dbl_len v.s
  have e1 : ({ data := #[(39 : UInt8)] } : ByteArray) = bs [39] := rfl
  have e2 : ({ data := #[(39 : UInt8), (39 : UInt8)] } : ByteArray) = bs [39, 39] := rfl
  simp only [m_value_Text, e1, e2, res_test, res_stop, h1, h2, h3, h4, ok_some', out_some, uS_0, beq_self_eq_true, if_true, bs_app, bs_size, itoaB_bs, txt]
  by_cases k0 : v.k = 0
  · simp [k0, bs]
  by_cases k1 : v.k = 1
  · by_cases n0 : v.n = 0 <;> simp [k1, n0]
  by_cases k2 : v.k = 2
  · simp [k2]
  by_cases k3 : v.k = 3
  · have g1 : decide ((1 : Int) + ((dbl v.s).length : Int) ≤ 9223372036854775807) = true := by rw [decide_eq_true_eq]; omega
    have g2 : decide ((([39] ++ dbl v.s : List UInt8).length : Int) + 1 ≤ 9223372036854775807) = true := by rw [decide_eq_true_eq]; simp; omega
    have g1' : decide (1 + (dbl v.s).length ≤ 9223372036854775807) = true := by rw [decide_eq_true_eq]; omega
    have g2' : decide (([39] ++ dbl v.s : List UInt8).length + 1 ≤ 9223372036854775807) = true := by rw [decide_eq_true_eq]; simp; omega
    simp only [k3, g1', g2', if_true]
    simp
  · simp [k0, k1, k2, k3, bs]

/-! unlike values have unlike texts, whatever stands behind them -/

def dig (b : UInt8) : Bool := decide (48 ≤ b.toNat ∧ b.toNat ≤ 57)

theorem dig_of {k : Nat} (h : k < 10) : dig (UInt8.ofNat (48 + k)) = true ∧ (UInt8.ofNat (48 + k)).toNat = 48 + k := by
  have : (UInt8.ofNat (48 + k)).toNat = 48 + k := by simp [UInt8.toNat_ofNat']; omega
  exact ⟨by unfold dig; rw [decide_eq_true_eq, this]; omega, this⟩

def valD (l : List UInt8) : Nat := l.foldl (fun a d => 10 * a + (d.toNat - 48)) 0

theorem dec_spec : ∀ (n u : Nat), u < n → (∀ b ∈ Lib.decDigits u, dig b = true) ∧ Lib.decDigits u ≠ [] ∧ valD (Lib.decDigits u) = u
  | 0, u, h => by omega
  | n + 1, u, h => by
    by_cases h10 : u < 10
    · obtain ⟨g1, g2⟩ := dig_of h10
      rw [Lib.decDigits_one h10]
      exact ⟨by simpa using g1, by simp, by simp only [valD, List.foldl, g2]; omega⟩
    · obtain ⟨g1, g2, g3⟩ := dec_spec n (u / 10) (by omega)
      obtain ⟨d1, d2⟩ := dig_of (k := u % 10) (by omega)
      rw [Lib.decDigits, dif_neg h10]
      refine ⟨fun b hb => ?_, by simp, ?_⟩
      · rcases List.mem_append.1 hb with hb | hb
        · exact g1 b hb
        · rw [List.mem_singleton.1 hb]; exact d1
      · unfold valD at g3 ⊢
        rw [List.foldl_append, g3]
        simp only [List.foldl, d2]
        omega

theorem dec_inj {a b : Nat} (h : Lib.decDigits a = Lib.decDigits b) : a = b := by
  rw [← (dec_spec (a + 1) a (by omega)).2.2, ← (dec_spec (b + 1) b (by omega)).2.2, h]

/-- what stands behind does not go on with a digit, a letter, or a quote -/
def stopB : List UInt8 → Bool
  | [] => true
  | b :: _ => !(dig b) && decide (b ≠ 39)

theorem digs_split : ∀ {p q x y : List UInt8}, (∀ b ∈ p, dig b = true) → (∀ b ∈ q, dig b = true) → stopB x = true → stopB y = true → p ++ x = q ++ y → p = q ∧ x = y
  | [], [], x, y, _, _, _, _, h => ⟨rfl, h⟩
  | [], b :: q, x, y, _, hq, hx, _, h => by
    simp only [List.nil_append, List.cons_append] at h
    subst h
    have := hq b (by simp)
    simp [stopB, this] at hx
  | a :: p, [], x, y, hp, _, _, hy, h => by
    simp only [List.nil_append, List.cons_append] at h
    subst h
    have := hp a (by simp)
    simp [stopB, this] at hy
  | a :: p, b :: q, x, y, hp, hq, hx, hy, h => by
    simp only [List.cons_append, List.cons.injEq] at h
    obtain ⟨rfl, h⟩ := h
    obtain ⟨rfl, e⟩ := digs_split (fun c hc => hp c (by simp [hc])) (fun c hc => hq c (by simp [hc])) hx hy h
    exact ⟨rfl, e⟩

theorem itoa_split {a b : Int} {x y : List UInt8} (hx : stopB x = true) (hy : stopB y = true) (h : Lib.itoa a ++ x = Lib.itoa b ++ y) : a = b ∧ x = y := by
  have hd : ∀ u, ∀ c ∈ Lib.decDigits u, dig c = true := fun u => (dec_spec (u + 1) u (by omega)).1
  have hn : ∀ u, Lib.decDigits u ≠ [] := fun u => (dec_spec (u + 1) u (by omega)).2.1
  have hm : ∀ u z w, (45 : UInt8) :: z ≠ Lib.decDigits u ++ w := by
    intro u z w e
    cases hu : Lib.decDigits u with
    | nil => exact hn u hu
    | cons c l =>
      rw [hu] at e
      simp only [List.cons_append, List.cons.injEq] at e
      have := hd u c (by rw [hu]; simp)
      rw [← e.1] at this
      exact absurd this (by decide)
  unfold Lib.itoa at h
  split at h <;> split at h
  · simp only [List.cons_append, List.cons.injEq, true_and] at h
    obtain ⟨e, h⟩ := digs_split (hd _) (hd _) hx hy h
    have := dec_inj e
    exact ⟨by omega, h⟩
  · simp only [List.cons_append] at h; exact absurd h (hm _ _ _)
  · simp only [List.cons_append] at h; exact absurd h.symm (hm _ _ _)
  · obtain ⟨e, h⟩ := digs_split (hd _) (hd _) hx hy h
    have := dec_inj e
    exact ⟨by omega, h⟩

theorem dbl_split : ∀ {s t x y : List UInt8}, stopB x = true → stopB y = true → dbl s ++ 39 :: x = dbl t ++ 39 :: y → s = t ∧ x = y
  | [], [], x, y, _, _, h => by simp only [dbl_nil, List.nil_append, List.cons.injEq, true_and] at h; exact ⟨rfl, h⟩
  | [], b :: t, x, y, hx, _, h => by
    rw [dbl_cons] at h
    by_cases e : b = 39
    · rw [if_pos e] at h
      simp only [dbl_nil, List.nil_append, List.cons_append, List.cons.injEq, true_and] at h
      rw [h] at hx; simp [stopB] at hx
    · rw [if_neg e] at h
      simp only [dbl_nil, List.nil_append, List.cons_append, List.cons.injEq] at h
      exact absurd h.1.symm e
  | a :: s, [], x, y, _, hy, h => by
    rw [dbl_cons] at h
    by_cases e : a = 39
    · rw [if_pos e] at h
      simp only [dbl_nil, List.nil_append, List.cons_append, List.cons.injEq, true_and] at h
      rw [← h] at hy; simp [stopB] at hy
    · rw [if_neg e] at h
      simp only [dbl_nil, List.nil_append, List.cons_append, List.cons.injEq] at h
      exact absurd h.1 e
  | a :: s, b :: t, x, y, hx, hy, h => by
    rw [dbl_cons, dbl_cons] at h
    by_cases e : a = 39 <;> by_cases f : b = 39
    · rw [if_pos e, if_pos f] at h
      simp only [List.nil_append, List.cons_append, List.cons.injEq, true_and] at h
      obtain ⟨rfl, h9⟩ := dbl_split hx hy h
      exact ⟨by rw [e, f], h9⟩
    · rw [if_pos e, if_neg f] at h
      simp only [List.nil_append, List.cons_append, List.cons.injEq] at h
      exact absurd h.1.symm f
    · rw [if_neg e, if_pos f] at h
      simp only [List.nil_append, List.cons_append, List.cons.injEq] at h
      exact absurd h.1 e
    · rw [if_neg e, if_neg f] at h
      simp only [List.nil_append, List.cons_append, List.cons.injEq] at h
      obtain ⟨rfl, h⟩ := h
      obtain ⟨rfl, h9⟩ := dbl_split hx hy h
      exact ⟨rfl, h9⟩

/-- the first byte of a text tells the kind -/
def kindB (b : UInt8) : Nat := if b = 110 then 0 else if b = 116 then 1 else if b = 102 then 2 else if b = 39 then 4 else 3

theorem itoa_head (n : Int) : ∃ b l, Lib.itoa n = b :: l ∧ (b = 45 ∨ dig b = true) := by
  unfold Lib.itoa
  split
  · exact ⟨_, _, rfl, .inl rfl⟩
  · obtain ⟨h1, h2, _⟩ := dec_spec (n.toNat + 1) n.toNat (by omega)
    cases hu : Lib.decDigits n.toNat with
    | nil => exact absurd hu h2
    | cons c l => exact ⟨c, l, rfl, .inr (h1 c (by rw [hu]; simp))⟩

theorem head3 (n : Int) : ∃ b l, Lib.itoa n = b :: l ∧ kindB b = 3 := by
  obtain ⟨b, l, h1, h2⟩ := itoa_head n
  refine ⟨b, l, h1, ?_⟩
  rcases h2 with rfl | h2
  · decide
  · unfold dig at h2
    rw [decide_eq_true_eq] at h2
    unfold kindB
    have e : ∀ c : UInt8, (c.toNat < 48 ∨ 57 < c.toNat) → ¬ b = c := fun c hc e => by subst e; omega
    rw [if_neg (e 110 (by decide)), if_neg (e 116 (by decide)), if_neg (e 102 (by decide)), if_neg (e 39 (by decide))]

theorem txt_head (v : Val) (hv : mayV v = true) : ∃ b l, txt v = b :: l ∧ kindB b = (if v.k = 0 then 0 else if v.k = 1 then (if v.n ≠ 0 then 1 else 2) else if v.k = 2 then 3 else 4) := by
  unfold txt
  by_cases k0 : v.k = 0
  · simp only [k0, if_true]; exact ⟨_, _, rfl, rfl⟩
  by_cases k1 : v.k = 1
  · by_cases n0 : v.n = 0
    · simp [k1, n0]; decide
    · simp [k1, n0]; decide
  by_cases k2 : v.k = 2
  · obtain ⟨b, l, h1, h2⟩ := head3 v.n
    simp [k2, h1, h2]
  · have k3 : v.k = 3 := by
      unfold mayV at hv
      simp [k0, k1, k2] at hv
      exact hv.1.1
    simp [k3]; decide

theorem txt_split {v w : Val} (hv : mayV v = true) (hw : mayV w = true) {x y : List UInt8} (hx : stopB x = true) (hy : stopB y = true) (h : txt v ++ x = txt w ++ y) : v = w ∧ x = y := by
  obtain ⟨b, l, h1, h2⟩ := txt_head v hv
  obtain ⟨c, m, h3, h4⟩ := txt_head w hw
  have hbc : b = c := by rw [h1, h3] at h; simp only [List.cons_append, List.cons.injEq] at h; exact h.1
  rw [hbc, h4] at h2
  clear h1 h3 h4
  obtain ⟨k, n, s⟩ := v
  obtain ⟨k', n', s'⟩ := w
  unfold mayV at hv hw
  simp only at hv hw h2
  unfold txt at h
  simp only at h
  by_cases a0 : k = 0
  · subst a0
    have b0 : k' = 0 := by
      by_cases e : k' = 0
      · exact e
      · simp [e] at h2; split at h2 <;> (try split at h2) <;> omega
    subst b0
    simp at hv hw h
    obtain ⟨rfl, rfl⟩ := hv; obtain ⟨rfl, rfl⟩ := hw
    exact ⟨rfl, h⟩
  by_cases a1 : k = 1
  · subst a1
    have b1 : k' = 1 ∧ (n ≠ 0 ↔ n' ≠ 0) := by
      by_cases e0 : k' = 0
      · simp [e0] at h2; split at h2 <;> omega
      · by_cases e1 : k' = 1
        · refine ⟨e1, ?_⟩
          simp [e1] at h2
          by_cases z1 : n = 0 <;> by_cases z2 : n' = 0 <;> simp [z1, z2] at h2 ⊢
        · by_cases e2 : k' = 2
          · simp [e2] at h2; split at h2 <;> omega
          · simp [e0, e1, e2] at h2; split at h2 <;> omega
    obtain ⟨rfl, hz⟩ := b1
    simp at hv hw
    obtain ⟨hv, rfl⟩ := hv; obtain ⟨hw, rfl⟩ := hw
    by_cases z1 : n = 0
    · have z2 : n' = 0 := by by_cases z : n' = 0; exact z; exact absurd z1 (hz.2 z)
      subst z1; subst z2
      simp at h
      exact ⟨rfl, h⟩
    · have z2 : n' ≠ 0 := hz.1 z1
      have y1 : n = 1 := by omega
      have y2 : n' = 1 := by omega
      subst y1; subst y2
      simp at h
      exact ⟨rfl, h⟩
  by_cases a2 : k = 2
  · subst a2
    have b2 : k' = 2 := by
      by_cases e0 : k' = 0
      · simp [e0] at h2
      · by_cases e1 : k' = 1
        · simp [e1] at h2; split at h2 <;> omega
        · by_cases e2 : k' = 2
          · exact e2
          · simp [e0, e1, e2] at h2
    subst b2
    simp at hv hw h
    subst hv; subst hw
    obtain ⟨rfl, h9⟩ := itoa_split hx hy h
    exact ⟨rfl, h9⟩
  · have a3 : k = 3 := by simp [a0, a1, a2] at hv; exact hv.1.1
    subst a3
    have b3 : k' = 3 := by
      by_cases e0 : k' = 0
      · simp [e0] at h2
      · by_cases e1 : k' = 1
        · simp [e1] at h2; split at h2 <;> omega
        · by_cases e2 : k' = 2
          · simp [e2] at h2
          · simp [e0, e1, e2] at hw; exact hw.1.1
    subst b3
    simp at hv hw h
    obtain ⟨rfl, _⟩ := hv; obtain ⟨rfl, _⟩ := hw
    obtain ⟨rfl, h9⟩ := dbl_split hx hy h
    exact ⟨rfl, h9⟩

theorem may_len {v : Val} (h : mayV v = true) : v.s.length ≤ 1000 := by
  unfold mayV at h
  by_cases k0 : v.k = 0
  · simp [k0] at h; simp [h.2]
  by_cases k1 : v.k = 1
  · simp [k1] at h; simp [h.2]
  by_cases k2 : v.k = 2
  · simp [k2] at h; simp [h]
  · simp [k0, k1, k2] at h; exact h.2

theorem valueTexts_res (v w : Val) (hv : v.ok) (hw : w.ok) : (m_L01_ValueTexts [.i v.k, .i v.n, .s (bs v.s), .i w.k, .i w.n, .s (bs w.s)]).res = some (0, [.b true]) := by
  have h1 := R01_May_res v
  have h2 := R01_May_res w
  simp only [m_L01_ValueTexts, h1, h2, ok_some', out_some, uB_0, res_test, res_stop, beq_self_eq_true, if_true]
  by_cases m1 : mayV v = true
  · by_cases m2 : mayV w = true
    · have t1 := Text_res v hv (by have := may_len m1; omega)
      have t2 := Text_res w hw (by have := may_len m2; omega)
      simp only [m1, m2, Bool.not_true, Bool.false_eq_true, if_false, t1, t2, ok_some', out_some, uS_0, bs_toList, beq_self_eq_true, if_true, eqV_c, eta]
      have : ((txt v == txt w) == decide (v = w)) = true := by
        rw [beq_iff_eq, Bool.eq_iff_iff, beq_iff_eq, decide_eq_true_eq]
        constructor
        · intro h
          exact (txt_split (x := []) (y := []) m1 m2 rfl rfl (by rw [h])).1
        · rintro rfl; rfl
      rw [this]
    · simp [m1, m2]
  · simp [m1]

end Go.Proofs.YtccgmaeflmbmlaaDoor
