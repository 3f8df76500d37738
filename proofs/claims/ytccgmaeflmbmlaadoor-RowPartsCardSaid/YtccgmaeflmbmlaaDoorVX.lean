/- Texts of this seat, one behind the other. -/
import Derived.Test.YtccgmaeflmbmlaaDoorKX
import Derived.Test.YtccgmaeflmbmlaaDoorTC
import Derived.Test.YtccgmaeflmbmlaaDoorGX
import Derived.Test.YtccgmaeflmbmlaaDoorSE
import Derived.SizedLaws
import Derived.Test.YtccgmaeflmbmlaaDoorGY
import Derived.Test.YtccgmaeflmbmlaaDoorTF
set_option linter.unusedVariables false
set_option linter.unusedSimpArgs false
namespace Go.Proofs.YtccgmaeflmbmlaaDoor
open Go Go.Pu

structure Val where
  k : Int
  n : Int
  s : List UInt8
  deriving DecidableEq

instance : Inhabited Val := ⟨⟨0, 0, []⟩⟩

def Val.e (v : Val) : List PV := [pI v.k, pI v.n, pS (bs v.s)]
def re (r : List Val) : List (List PV) := r.map Val.e

@[simp] theorem ln_re (r : List Val) : ln (re r) = r.length := ln_map _ _
theorem el_re (r : List Val) {i : Nat} (h : i < r.length) : el (re r) i = Val.e r[i] := el_map _ _ h

/-! the order of values, and of rows -/

def cmpB (a b : UInt8) : Int := Cmp.cmpI a.toNat b.toNat

theorem bytes_lst : ∀ a b : List UInt8, Lib.compareBytes a b = Cmp.lstC cmpB a b
  | [], [] => rfl
  | [], _ :: _ => rfl
  | _ :: _, [] => rfl
  | a :: xs, b :: ys => by
    simp only [Lib.compareBytes, Cmp.lstC, bytes_lst xs ys]
    have h : ∀ x y : UInt8, x < y ↔ (x.toNat : Int) < y.toNat := fun x y => by rw [UInt8.lt_iff_toNat_lt]; omega
    simp only [cmpB, Cmp.cmpI, Cmp.thn, h]
    (repeat' split) <;> first | rfl | (exfalso; omega) | simp_all

theorem cmpBytes : Cmp Lib.compareBytes := by
  have h1 : Cmp cmpB := Cmp.int.pull (fun x : UInt8 => (x.toNat : Int)) fun a b h => UInt8.toNat_inj.1 (by exact_mod_cast h)
  have h2 := h1.list
  have : Lib.compareBytes = Cmp.lstC cmpB := by funext a b; exact bytes_lst a b
  rw [this]; exact h2

def cmpV (a b : Val) : Int := Cmp.thn (Cmp.cmpI a.k b.k) (Cmp.thn (Cmp.cmpI a.n b.n) (Lib.compareBytes a.s b.s))

theorem cV : Cmp cmpV :=
  (Cmp.int.both (Cmp.int.both cmpBytes)).pull (fun v : Val => (v.k, v.n, v.s)) fun a b h => by
    obtain ⟨_, _, _⟩ := a; obtain ⟨_, _, _⟩ := b; simp only [Prod.mk.injEq] at h; obtain ⟨rfl, rfl, rfl⟩ := h; rfl

def cmpR : List Val → List Val → Int := Cmp.lstC cmpV
theorem cR : Cmp cmpR := cV.list

/-- may a value be? a row? -/
def mayV (v : Val) : Bool :=
  if v.k = 0 then v.n == 0 && v.s == [] else if v.k = 1 then (v.n == 0 || v.n == 1) && v.s == [] else if v.k = 2 then v.s == [] else v.k == 3 && v.n == 0 && decide (v.s.length ≤ 1000)
def mayR (r : List Val) : Bool := decide (r.length ≤ 40) && r.all mayV

/-! what a law is handed -/

def big : Nat := 140737488355328

theorem lst_map {α : Type} {f : α → List PV} {p : α → Prop} : ∀ {es : List (List PV)}, (∀ e ∈ es, ∃ a, e = f a ∧ p a) → ∃ l : List α, es = l.map f ∧ ∀ a ∈ l, p a
  | [], _ => ⟨[], rfl, fun _ h => by cases h⟩
  | e :: es, h => by
    obtain ⟨a, rfl, ha⟩ := h e (by simp)
    obtain ⟨l, rfl, hl⟩ := lst_map (es := es) fun e he => h e (by simp [he])
    exact ⟨a :: l, rfl, List.forall_mem_cons.2 ⟨ha, hl⟩⟩

theorem gd_int {P : Program} {x : PV} (h : Gd P (.int .i64) x) : ∃ n, x = pI n ∧ -9223372036854775808 ≤ n ∧ n < 9223372036854775808 := by
  cases h with
  | int _ n hn =>
    refine ⟨n, rfl, ?_⟩
    simp only [Lit.wf, IntKind.min, IntKind.max, IntKind.bits, IntKind.signed, Bool.and_eq_true, decide_eq_true_eq] at hn
    simp at hn
    omega

theorem gd_str {P : Program} {x : PV} (h : Gd P .str x) : ∃ s : List UInt8, x = pS (bs s) ∧ s.length ≤ big := by
  cases h with
  | str s hs => exact ⟨s.data.toList, rfl, Nat.le_trans (by rw [Array.length_toList]; exact hs) (by decide)⟩

theorem gd_lst {P : Program} {t : TypeId} {x : PV} (h : Gd P (.sl t) x) : ∃ es, x = .lst t es ∧ es.length * P.bytesOf t ≤ big ∧ ∀ e ∈ es, Gds P (kds P t) e := by
  cases h with
  | sl t es h1 h2 h3 h4 =>
    refine ⟨es, rfl, Nat.le_trans h1 (by decide), fun e he => ?_⟩
    obtain ⟨i, hi, rfl⟩ := List.mem_iff_getElem.1 he
    have e1 : es.getD i [] = es[i] := by simp [List.getD, hi]
    have g3 := h3 i hi
    have g4 := fun j => h4 i j hi
    rw [e1] at g3
    simp only [e1] at g4
    exact ⟨g3, g4⟩

def i64 (n : Int) : Prop := -9223372036854775808 ≤ n ∧ n < 9223372036854775808
def Val.ok (v : Val) : Prop := i64 v.k ∧ i64 v.n ∧ v.s.length ≤ big
def okR (r : List Val) : Prop := r.length ≤ 4398046511104 ∧ ∀ v ∈ r, v.ok
/-- cells, one by one -/
theorem gds_cells {P : Program} {ks : List Kd} {xs : List PV} (h : Gds P ks xs) : xs.length = ks.length ∧ ∀ j, j < ks.length → Gd P (ks.getD j .other) (xs.getD j .top) := ⟨h.len, h.gd⟩

theorem val_cells {a b c : PV} (h0 : Gd Tryd.prog (.int .i64) a) (h1 : Gd Tryd.prog (.int .i64) b) (h2 : Gd Tryd.prog .str c) : ∃ v : Val, a = pI v.k ∧ b = pI v.n ∧ c = pS (bs v.s) ∧ v.ok := by
  obtain ⟨k, rfl, k1⟩ := gd_int h0
  obtain ⟨n, rfl, n1⟩ := gd_int h1
  obtain ⟨s, rfl, s1⟩ := gd_str h2
  exact ⟨⟨k, n, s⟩, rfl, rfl, rfl, k1, n1, s1⟩

/-- a list of some cells, each of its kind -/
theorem gd_list {α : Type} {t : TypeId} {ks : List Kd} {b : Nat} {f : α → List PV} {p : α → Prop} (hk : kds Tryd.prog t = ks) (hb : Tryd.prog.bytesOf t = b) (hb1 : 32 ≤ b)
    (hc : ∀ e, Gds Tryd.prog ks e → ∃ a, e = f a ∧ p a) {x : PV} (h : Gd Tryd.prog (.sl t) x) : ∃ l : List α, x = .lst t (l.map f) ∧ l.length ≤ 4398046511104 ∧ ∀ a ∈ l, p a := by
  obtain ⟨es, rfl, h1, h2⟩ := gd_lst h
  rw [hk] at h2
  rw [hb] at h1
  obtain ⟨l, rfl, hl⟩ := lst_map fun e he => hc e (h2 e he)
  refine ⟨l, rfl, ?_, hl⟩
  rw [List.length_map] at h1
  have : l.length * 32 ≤ l.length * b := Nat.mul_le_mul_left _ hb1
  unfold big at h1
  omega

theorem gd_row {x : PV} (h : Gd Tryd.prog (.sl 25) x) : ∃ r : List Val, x = .lst 25 (re r) ∧ okR r := by
  obtain ⟨l, e, h1, h2⟩ := gd_list (f := Val.e) (p := Val.ok) (ks := [.int .i64, .int .i64, .str]) (b := 32) (by kernel_rfl) (by kernel_rfl) (by decide) (fun e he => by
    obtain ⟨hl, hg⟩ := gds_cells he
    match e, hl, hg with
    | [a, b, c], _, hg =>
      obtain ⟨v, rfl, rfl, rfl, hv⟩ := val_cells (hg 0 (by decide)) (hg 1 (by decide)) (hg 2 (by decide))
      exact ⟨v, rfl, hv⟩) h
  exact ⟨l, e, h1, h2⟩

end Go.Proofs.YtccgmaeflmbmlaaDoor

set_option linter.unusedVariables false
set_option linter.unusedSimpArgs false
namespace Go.Proofs.YtccgmaeflmbmlaaDoor
open Go Go.Pu

theorem cmp_Compare_int_res (a b : Int) : (m_cmp_Compare_int [.i a, .i b]).res = some (0, [.i (Cmp.cmpI a b)]) := by
  simp only [m_cmp_Compare_int, Cmp.cmpI, res_test, res_stop, bne_self_eq_false, Bool.false_eq_true, if_false, decide_eq_true_eq]
  split
  · rfl
  · split <;> rfl

theorem value_May_res (v : Val) : (m_value_May [.i v.k, .i v.n, .s (bs v.s)]).res = some (0, [.b (mayV v)]) := by
  simp only [m_value_May, mayV, res_test, res_stop, bs_toList, bs_size]
  by_cases h0 : v.k = 0
  · simp [h0]
  · by_cases h1 : v.k = 1
    · by_cases h2 : v.n = 0
      · simp [h1, h2]
      · by_cases h3 : v.n = 1 <;> simp [h1, h2, h3]
    · by_cases h2 : v.k = 2
      · simp [h2]
      · by_cases h3 : v.k = 3
        · have h5 : ((v.s.length : Int) ≤ 1000) ↔ v.s.length ≤ 1000 := by omega
          by_cases h4 : v.n = 0
          · simp [h3, h4, h5]
          · simp [h3, h4]
        · simp [h0, h1, h2, h3]

theorem R01_May_res (v : Val) : (m_R01_May [.i v.k, .i v.n, .s (bs v.s)]).res = some (0, [.b (mayV v)]) := by
  simp only [m_R01_May, mayV, res_test, res_stop, bs_toList, bs_size]
  by_cases h0 : v.k = 0
  · by_cases hs : v.s = []
    · by_cases h4 : v.n = 0
      · simp [h0, hs, h4]
      · by_cases h5 : 0 ≤ v.n
        · have : ¬ v.n ≤ 0 := by omega
          simp [h0, hs, h4, h5, this]
        · simp [h0, hs, h4, h5]
    · simp [h0, hs]
  · by_cases h1 : v.k = 1
    · by_cases hs : v.s = []
      · by_cases h5 : 0 ≤ v.n
        · by_cases h6 : v.n ≤ 1
          · have : v.n = 0 ∨ v.n = 1 := by omega
            rcases this with h | h <;> simp [h1, hs, h]
          · have h7 : ¬ v.n = 0 := by omega
            have h8 : ¬ v.n = 1 := by omega
            simp [h1, hs, h5, h6, h7, h8]
        · have h7 : ¬ v.n = 0 := by omega
          have h8 : ¬ v.n = 1 := by omega
          simp [h1, hs, h5, h7, h8]
      · simp [h1, hs]
    · by_cases h2 : v.k = 2
      · simp [h2]
      · by_cases h3 : v.k = 3
        · have h5 : ((v.s.length : Int) ≤ 1000) ↔ v.s.length ≤ 1000 := by omega
          by_cases h4 : v.n = 0
          · simp [h3, h4, h5]
          · simp [h3, h4]
        · simp [h0, h1, h2, h3]

theorem value_Compare_res (v w : Val) : (m_value_Compare [.i v.k, .i v.n, .s (bs v.s), .i w.k, .i w.n, .s (bs w.s)]).res = some (0, [.i (cmpV v w)]) := by
  have hl : ∀ x y z : Int, lres rd_value_Compare_47_3 [.i 0, .l [[pI x], [pI y], [pI z]], .i 3, .i 0] = if Cmp.thn x (Cmp.thn y z) = 0 then some (1, [.i 0]) else some (0, [.i (Cmp.thn x (Cmp.thn y z))]) := by
    intro x y z
    have s1 : ∀ i : Int, i = 0 ∨ i = 1 ∨ i = 2 → (rd_value_Compare_47_3 [.i 0, .l [[pI x], [pI y], [pI z]], .i 3, .i i]).val =
        if cI (el [[pI x], [pI y], [pI z]] i) 0 = 0 then some (.next [.i 0, .l [[pI x], [pI y], [pI z]], .i 3, .i (i + 1)]) else some (.stop 0 [.i (cI (el [[pI x], [pI y], [pI z]] i) 0)]) := by
      intro i hi
      have h1 : i < 3 := by omega
      have h2 : inR i (ln [[pI x], [pI y], [pI z]]) = true := by rw [inR_iff]; simp [ln]; omega
      have h3 : w64 (i + 1) = i + 1 := w64_eq (by omega) (by omega)
      simp only [rd_value_Compare_47_3, rt_test, rt_stop, rt_next, h1, h2, h3, decide_true, if_true]
      by_cases h : cI (el [[pI x], [pI y], [pI z]] i) 0 = 0 <;> simp [h]
    have s3 : (rd_value_Compare_47_3 [.i 0, .l [[pI x], [pI y], [pI z]], .i 3, .i 3]).val = some (.stop 1 [.i 0]) := by simp [rd_value_Compare_47_3]
    have e0 : cI (el [[pI x], [pI y], [pI z]] 0) 0 = x := rfl
    have e1 : cI (el [[pI x], [pI y], [pI z]] 1) 0 = y := rfl
    have e2 : cI (el [[pI x], [pI y], [pI z]] 2) 0 = z := rfl
    have t0 := s1 0 (by omega)
    have t1 := s1 1 (by omega)
    have t2 := s1 2 (by omega)
    rw [e0] at t0; rw [e1] at t1; rw [e2] at t2
    unfold Cmp.thn
    by_cases hx : x = 0
    · rw [if_pos hx] at t0
      rw [lres_next t0]
      by_cases hy : y = 0
      · rw [if_pos hy] at t1
        rw [show (0 : Int) + 1 = 1 from rfl, lres_next t1]
        by_cases hz : z = 0
        · rw [if_pos hz] at t2
          rw [show (1 : Int) + 1 = 2 from rfl, lres_next t2, show (2 : Int) + 1 = 3 from rfl, lres_stop s3]
          simp [hx, hy, hz]
        · rw [if_neg hz] at t2
          rw [show (1 : Int) + 1 = 2 from rfl, lres_stop t2]
          simp [hx, hy, hz]
      · rw [if_neg hy] at t1
        rw [show (0 : Int) + 1 = 1 from rfl, lres_stop t1]
        simp [hx, hy]
    · rw [if_neg hx] at t0
      rw [lres_stop t0]
      simp [hx]
  simp only [m_value_Compare, cmp_Compare_int_res, hl, res_test, ok_some', out_some, uI_0, bs_data, beq_self_eq_true, if_true, cmpV]
  split <;> rename_i h <;> simp [h]

end Go.Proofs.YtccgmaeflmbmlaaDoor

set_option linter.unusedVariables false
set_option linter.unusedSimpArgs false
set_option linter.constructorNameAsVariable false
namespace Go.Proofs.YtccgmaeflmbmlaaDoor
open Go Go.Pu

theorem law_of_row {P : Program} {X : Ext} {M : FuncId → Bool} {L : FuncId → Nat → Option (List Nat)} {f : FuncId} {S : FSp} {m : List U → Rt} {xs : List PV} {us : List U} (hX : X f = some (gF S m)) (hd : decs S.ap (nrms S.ap xs) = some us)
    (ha : S.ah = []) (ho : S.outs = [([.one .b], [])]) (hr : (m us).res = some (0, [.b true])) : ∃ n hc, call P X M L n f xs [] = some (.bool true, hc) := by
  refine ⟨1, [], ?_⟩
  simp only [call, hX, gF, gW, hd, ha, decH, fU_eq, List.append_nil, ho, outsTr, Tr.val, hr, ok_some', out_some, beq_self_eq_true, if_true]
  rfl

set_option maxRecDepth 100000 in
theorem arg_sl {t e : TypeId} {x : PV} (hu : kdOf Tryd.prog t = .sl e) (h1 : ArgGd Tryd.prog t x = Gd Tryd.prog (kdOf Tryd.prog t) x) (h : ArgGd Tryd.prog t x) : Gd Tryd.prog (.sl e) x := by
  rw [h1, hu] at h; exact h

set_option maxRecDepth 100000 in
theorem arg_int {x : PV} (h : ArgGd Tryd.prog 3 x) : ∃ n, x = pI n ∧ i64 n := by
  have e : ArgGd Tryd.prog 3 x = Gd Tryd.prog (.int .i64) x := by kernel_rfl
  rw [e] at h
  exact gd_int h

set_option maxRecDepth 100000 in
theorem arg_val {x : PV} (h : ArgGd Tryd.prog 25 x) : ∃ v : Val, x = .agg v.e ∧ v.ok := by
  have e : ArgGd Tryd.prog 25 x = ∃ xs, x = .agg xs ∧ Gds Tryd.prog [.int .i64, .int .i64, .str] xs := by kernel_rfl
  rw [e] at h
  obtain ⟨xs, rfl, hg⟩ := h
  obtain ⟨hl, hg⟩ := gds_cells hg
  match xs, hl, hg with
  | [a, b, c], _, hg =>
    obtain ⟨v, rfl, rfl, rfl, hv⟩ := val_cells (hg 0 (by decide)) (hg 1 (by decide)) (hg 2 (by decide))
    exact ⟨v, rfl, hv⟩

set_option maxRecDepth 100000 in
theorem arg_vals {x : PV} (h : ArgGd Tryd.prog 22 x) : ∃ l : List Val, x = .lst 25 (re l) ∧ okR l := by
  have e : ArgGd Tryd.prog 22 x = Gd Tryd.prog (.sl 25) x := by kernel_rfl
  rw [e] at h
  exact gd_row h

set_option maxRecDepth 100000 in
theorem arg_bool {x : PV} (h : ArgGd Tryd.prog 4 x) : ∃ b, x = pB b := by
  have e : ArgGd Tryd.prog 4 x = Gd Tryd.prog .bool x := by kernel_rfl
  rw [e] at h
  cases h with
  | bool b => exact ⟨b, rfl⟩

end Go.Proofs.YtccgmaeflmbmlaaDoor

set_option linter.unusedVariables false
set_option linter.unusedSimpArgs false
namespace Go.Proofs.YtccgmaeflmbmlaaDoor
open Go Go.Pu

/-- equal, field by field -/
theorem eqV_c (v : Val) (a b : Int) (c : List UInt8) : (v.k == a && (v.n == b && (v.s == c && true))) = decide (v = ⟨a, b, c⟩) := by
  obtain ⟨d, e, f⟩ := v
  rw [Bool.eq_iff_iff]; simp
theorem eqV_c' (v : Val) (a b : Int) (c : List UInt8) : (a == v.k && (b == v.n && (c == v.s && true))) = decide (⟨a, b, c⟩ = v) := by
  obtain ⟨d, e, f⟩ := v
  rw [Bool.eq_iff_iff]; simp
theorem eta (v : Val) : (⟨v.k, v.n, v.s⟩ : Val) = v := rfl

def tru (b : Bool) : Val := ⟨1, if b then 1 else 0, []⟩
def nul : Val := ⟨0, 0, []⟩
def intV (n : Int) : Val := ⟨2, n, []⟩
def Val.u (v : Val) : List U := [.i v.k, .i v.n, .s (bs v.s)]

theorem Truth_res (b : Bool) : (m_value_Truth [.b b]).res = some (0, (tru b).u) := by
  cases b <;> simp [m_value_Truth, tru, Val.u, bs]

theorem RTruth_res (b : Bool) : (m_R01_Truth [.b b]).res = some (0, (tru b).u) := by
  cases b <;> simp [m_R01_Truth, tru, Val.u, bs]

def notV (v : Val) : Val := if v = tru true then tru false else if v = tru false then tru true else nul

theorem Not_res (v : Val) : (m_value_Not v.u).res = some (0, (notV v).u) := by
  obtain ⟨k, n, s⟩ := v
  simp only [m_value_Not, notV, tru, Val.u, Val.mk.injEq, res_test, res_stop, bs_toList]
  by_cases h1 : k = 1 <;> by_cases h2 : n = 1 <;> by_cases h3 : n = 0 <;> by_cases h4 : s = [] <;> simp [h1, h2, h3, h4, nul, bs] <;> omega

theorem RNot_res (v : Val) : (m_R01_Not v.u).res = some (0, (notV v).u) := by
  obtain ⟨k, n, s⟩ := v
  simp only [m_R01_Not, notV, tru, Val.u, Val.mk.injEq, res_test, res_stop, bs_toList]
  by_cases h1 : k = 1 <;> by_cases h2 : n = 1 <;> by_cases h3 : n = 0 <;> by_cases h4 : s = [] <;> simp [h1, h2, h3, h4, nul, bs] <;> omega

theorem Index_res (l : List Val) (hl : l.length ≤ 4398046511104) (v : Val) : ∃ n : Int, (m_slices_Index_ [.l (re l), .i v.k, .i v.n, .s (bs v.s)]).res = some (0, [.i n]) ∧ (0 ≤ n ↔ v ∈ l) := by
  have h := loop_all l (rd := rd_slices_Index__84_2) (fun i => [.l (re l), .i l.length, .i (i : Nat), .i v.k, .i v.n, .s (bs v.s)]) (fun x => !decide (v = x)) 0 1 (fun i => [.i (i : Nat)]) []
    (by simp [rd_slices_Index__84_2, re]) (by
    intro i h
    simp only [rd_slices_Index__84_2, re, el_map _ _ h, rt_test, rt_stop, rt_next, ln_map, Val.e, cI_p, cI_s, cS_s, cS_p, bs_toList, inR_cast, eqV_c, eta, w64_succ (i := i) (by omega), Int.ofNat_lt, h, decide_true, if_true]
    by_cases e : v = l[i] <;> simp [e])
  simp only [Int.natCast_zero, re] at h
  simp only [m_slices_Index_, re, ln_map]
  rcases h with ⟨h1, h2⟩ | ⟨h1, i, hi, hp, _, h2⟩
  · refine ⟨-1, by simp [h2], ?_⟩
    have : ¬ v ∈ l := fun hm => by simpa using List.all_eq_true.1 h1 v hm
    simp [this]
  · refine ⟨i, by simp [h2], ?_⟩
    have : v = l[i] := by simpa using hp
    have hm : v ∈ l := by rw [this]; exact List.getElem_mem hi
    simp [hm]

theorem Contains_res (l : List Val) (hl : l.length ≤ 4398046511104) (v : Val) : (m_slices_Contains_ [.l (re l), .i v.k, .i v.n, .s (bs v.s)]).res = some (0, [.b (decide (v ∈ l))]) := by
  obtain ⟨n, h1, h2⟩ := Index_res l hl v
  simp only [m_slices_Contains_, h1, ok_some', out_some, uI_0, res_test, res_stop, beq_self_eq_true, if_true, ge_iff_le, h2]

/-- And (strong = false), Or (strong = true) -/
def foldV (strong : Bool) (l : List Val) : Val := if tru strong ∈ l then tru strong else if ∀ x ∈ l, x = tru (!strong) then tru (!strong) else nul

theorem fold_res (b : Bool) (l : List Val) (hl : l.length ≤ 4398046511104) : (m_value_fold [.b b, .l (re l)]).res = some (0, (foldV b l).u) := by
  have hT := Truth_res b
  have hT2 := Truth_res (!b)
  have hC := Contains_res l hl (tru b)
  have h := loop_all l (rd := rd_value_fold_85_2) (fun i => [.l (re l), .i l.length, .i (i : Nat), .i (tru (!b)).k, .i (tru (!b)).n, .s (bs (tru (!b)).s)]) (fun x => decide (x = tru (!b))) 0 1
    (fun i => [.i (i : Nat), .i (tru (!b)).k, .i (tru (!b)).n, .s (bs (tru (!b)).s)]) [.i (tru (!b)).k, .i (tru (!b)).n, .s (bs (tru (!b)).s)]
    (by simp [rd_value_fold_85_2, re]) (by
    intro i h
    simp only [rd_value_fold_85_2, re, el_map _ _ h, rt_test, rt_stop, rt_next, ln_map, Val.e, cI_p, cI_s, cS_s, cS_p, bs_toList, inR_cast, eqV_c, eta, w64_succ (i := i) (by omega), Int.ofNat_lt, h, decide_true, if_true]
    by_cases e : l[i] = tru (!b) <;> simp [e])
  simp only [Int.natCast_zero, re] at h
  simp only [re] at hC
  simp only [m_value_fold, re, ln_map, hT, hT2, Val.u, ok_some', out_some, uI_0, uI_s, uS_s, uS_0, uB_0, hC, res_test, res_stop, beq_self_eq_true, if_true, foldV]
  by_cases e : tru b ∈ l
  · simp [e]
  · simp only [e, decide_false, Bool.false_eq_true, if_false]
    rcases h with ⟨h1, h2⟩ | ⟨h1, i, hi, hp, _, h2⟩
    · have : ∀ x ∈ l, x = tru (!b) := fun x hx => by simpa using List.all_eq_true.1 h1 x hx
      rw [if_pos this]; simp [h2]
    · have : ¬ ∀ x ∈ l, x = tru (!b) := fun hh => by simp [hh _ (List.getElem_mem hi)] at hp
      rw [if_neg this]; simp [h2, nul, bs_nil]

theorem And_res (l : List Val) (hl : l.length ≤ 4398046511104) : (m_value_And [.l (re l)]).res = some (0, (foldV false l).u) := by
  simp [m_value_And, fold_res false l hl, Val.u]
theorem Or_res (l : List Val) (hl : l.length ≤ 4398046511104) : (m_value_Or [.l (re l)]).res = some (0, (foldV true l).u) := by
  simp [m_value_Or, fold_res true l hl, Val.u]

end Go.Proofs.YtccgmaeflmbmlaaDoor

set_option linter.unusedVariables false
set_option linter.unusedSimpArgs false
namespace Go.Proofs.YtccgmaeflmbmlaaDoor
open Go Go.Pu

def in64 (n : Int) : Bool := decide (-9223372036854775808 ≤ n ∧ n < 9223372036854775808)

/-- what is done to two numbers: null, too large, or a number -/
def arith (f : Int → Int → Int) (v w : Val) : Val × Bool :=
  if v.k = 0 ∨ w.k = 0 then (nul, true) else if v.k ≠ 2 ∨ w.k ≠ 2 then (nul, false) else if in64 (f v.n w.n) then (intV (f v.n w.n), true) else (nul, false)
def addV : Val → Val → Val × Bool := arith (· + ·)
def subV : Val → Val → Val × Bool := arith (· - ·)
def mulV : Val → Val → Val × Bool := arith (· * ·)
def ru (r : Val × Bool) : List U := [.i r.1.k, .i r.1.n, .s (bs r.1.s), .b r.2]

theorem w64_def (n : Int) : w64 n = (n + 9223372036854775808) % 18446744073709551616 - 9223372036854775808 := by
  unfold w64; rw [IntKind.wrap_i64]
theorem w64_in {n : Int} (h : in64 n = true) : w64 n = n := by
  have := of_decide_eq_true h
  exact w64_eq this.1 this.2

theorem add_ok (a b : Int) (ha : i64 a) (hb : i64 b) : ((decide (w64 (a + b) > a) == decide (b > 0)) || decide (b = 0)) = in64 (a + b) := by
  unfold i64 at ha hb
  rw [Bool.eq_iff_iff]
  simp only [Bool.or_eq_true, beq_iff_eq, decide_eq_decide, decide_eq_true_eq, in64, w64_def]
  omega
theorem sub_ok (a b : Int) (ha : i64 a) (hb : i64 b) : ((decide (w64 (a - b) < a) == decide (b > 0)) || decide (b = 0)) = in64 (a - b) := by
  unfold i64 at ha hb
  rw [Bool.eq_iff_iff]
  simp only [Bool.or_eq_true, beq_iff_eq, decide_eq_decide, decide_eq_true_eq, in64, w64_def]
  omega

theorem Add_res (v w : Val) (hv : v.ok) (hw : w.ok) : (m_value_Add [.i v.k, .i v.n, .s (bs v.s), .i w.k, .i w.n, .s (bs w.s)]).res = some (0, ru (addV v w)) := by
  have h := add_ok v.n w.n hv.2.1 hw.2.1
  simp only [m_value_Add, addV, arith, res_test, res_stop]
  by_cases h1 : v.k = 0
  · simp [h1, ru, nul, bs_nil]
  by_cases h2 : w.k = 0
  · simp [h1, h2, ru, nul, bs_nil]
  by_cases h3 : v.k = 2
  · by_cases h4 : w.k = 2
    · by_cases h6 : w.n = 0
      · have h5 : in64 (v.n + w.n) = true := by rw [← h]; simp [h6]
        have e := w64_in h5
        simp [h3, h4, h5, h6, e, ru, intV, bs_nil]
        simp [h6] at e h5
        simp [h5, e]
      · by_cases h5 : in64 (v.n + w.n) = true
        · have e := w64_in h5
          simp only [h6, decide_false, Bool.or_false, h5, e] at h
          simp [h3, h4, h5, e, ru, intV, bs_nil] at h ⊢
          simp [h]
        · have h5 : in64 (v.n + w.n) = false := by simpa using h5
          simp only [h6, decide_false, Bool.or_false, h5] at h
          simp only [h3, h4, h5, ru, nul, bs_nil, h]
          simp [h6]
    · simp [h1, h2, h3, h4, ru, nul, bs_nil]
  · simp [h1, h2, h3, ru, nul, bs_nil]

theorem Sub_res (v w : Val) (hv : v.ok) (hw : w.ok) : (m_value_Sub [.i v.k, .i v.n, .s (bs v.s), .i w.k, .i w.n, .s (bs w.s)]).res = some (0, ru (subV v w)) := by
  have h := sub_ok v.n w.n hv.2.1 hw.2.1
  simp only [m_value_Sub, subV, arith, res_test, res_stop]
  by_cases h1 : v.k = 0
  · simp [h1, ru, nul, bs_nil]
  by_cases h2 : w.k = 0
  · simp [h1, h2, ru, nul, bs_nil]
  by_cases h3 : v.k = 2
  · by_cases h4 : w.k = 2
    · by_cases h6 : w.n = 0
      · have h5 : in64 (v.n - w.n) = true := by rw [← h]; simp [h6]
        have e := w64_in h5
        simp [h3, h4, h5, h6, e, ru, intV, bs_nil]
        simp [h6] at e h5
        simp [h5, e]
      · by_cases h5 : in64 (v.n - w.n) = true
        · have e := w64_in h5
          simp only [h6, decide_false, Bool.or_false, h5, e] at h
          simp [h3, h4, h5, e, ru, intV, bs_nil] at h ⊢
          simp [h]
        · have h5 : in64 (v.n - w.n) = false := by simpa using h5
          simp only [h6, decide_false, Bool.or_false, h5] at h
          simp only [h3, h4, h5, ru, nul, bs_nil, h]
          simp [h6]
    · simp [h1, h2, h3, h4, ru, nul, bs_nil]
  · simp [h1, h2, h3, ru, nul, bs_nil]

theorem amount_res (n : Int) (hn : i64 n) : (m_value_amount [.i n]).res = some (0, [.i n.natAbs]) := by
  unfold i64 at hn
  simp only [m_value_amount, res_test, res_stop, decide_eq_true_eq, IntKind.wrap_u64]
  split
  · congr 4; omega
  · congr 4; omega

theorem mul_natAbs (a b : Int) : ((a.natAbs : Int) * (b.natAbs : Int)) = if (decide (a < 0) == decide (b < 0)) then a * b else -(a * b) := by
  by_cases ha : a < 0 <;> by_cases hb : b < 0
  · rw [Int.ofNat_natAbs_of_nonpos (by omega), Int.ofNat_natAbs_of_nonpos (by omega), Int.neg_mul_neg]; simp [ha, hb]
  · rw [Int.ofNat_natAbs_of_nonpos (by omega), Int.natAbs_of_nonneg (by omega), Int.neg_mul]; simp [ha, hb]
  · rw [Int.natAbs_of_nonneg (by omega), Int.ofNat_natAbs_of_nonpos (by omega), Int.mul_neg]; simp [ha, hb]
  · rw [Int.natAbs_of_nonneg (by omega), Int.natAbs_of_nonneg (by omega)]; simp [ha, hb]

/-- the test that Mul makes -/
theorem mul_ok (a b : Int) (p : Int) (hp0 : 0 ≤ p) (hp : p = if (decide (a < 0) == decide (b < 0)) then a * b else -(a * b)) :
    ((p / 18446744073709551616 == 0) && (decide (p % 18446744073709551616 < 9223372036854775808) || (p % 18446744073709551616 == 9223372036854775808 && !(decide (a < 0) == decide (b < 0))))) = in64 (a * b) := by
  generalize (decide (a < 0) == decide (b < 0)) = q at *
  generalize a * b = m at *
  rw [Bool.eq_iff_iff]
  simp only [Bool.and_eq_true, Bool.or_eq_true, beq_iff_eq, decide_eq_true_eq, in64, Bool.not_eq_true']
  cases q
  · simp only [Bool.false_eq_true, if_false] at hp
    simp; omega
  · simp only [if_true] at hp
    simp; omega

theorem Mul_res (v w : Val) (hv : v.ok) (hw : w.ok) : (m_value_Mul [.i v.k, .i v.n, .s (bs v.s), .i w.k, .i w.n, .s (bs w.s)]).res = some (0, ru (mulV v w)) := by
  have a1 := amount_res v.n hv.2.1
  have a2 := amount_res w.n hw.2.1
  have h0 := mul_natAbs v.n w.n
  have hm := mul_ok v.n w.n _ (Int.mul_nonneg (Int.natCast_nonneg _) (Int.natCast_nonneg _)) h0
  have u1 : inU64 (v.n.natAbs : Int) = true := by
    have := hv.2.1; unfold i64 at this
    unfold inU64; simp only [decide_eq_true_eq]; omega
  have u2 : inU64 (w.n.natAbs : Int) = true := by
    have := hw.2.1; unfold i64 at this
    unfold inU64; simp only [decide_eq_true_eq]; omega
  simp only [m_value_Mul, mulV, arith, res_test, res_stop, a1, a2, ok_some', out_some, uI_0, beq_self_eq_true, if_true, u1, u2, Bool.and_self, mulHi, mulLo]
  by_cases h1 : v.k = 0
  · simp [h1, ru, nul, bs_nil]
  by_cases h2 : w.k = 0
  · simp [h1, h2, ru, nul, bs_nil]
  by_cases h3 : v.k = 2
  · by_cases h4 : w.k = 2
    · generalize (decide (v.n < 0) == decide (w.n < 0)) = q at hm ⊢
      generalize ((v.n.natAbs : Int) * (w.n.natAbs : Int)) = p at hm ⊢
      have key : ∀ (A B C : Bool) (x y : Rs), (if A = true then if B = true then x else if C = true then (if (!!q) = true then y else x) else y else y) = if (A && (B || (C && !q))) = true then x else y := by
        intro A B C x y
        cases A <;> cases B <;> cases C <;> cases q <;> rfl
      simp only [h3, h4]
      simp only [bne_self_eq_false, Bool.false_eq_true, if_false, show ((2 : Int) == 0) = false from rfl, show ¬ (2 : Int) = 0 by decide, or_self, ne_eq, not_true_eq_false]
      rw [key, hm]
      by_cases h5 : in64 (v.n * w.n) = true
      · simp [h5, w64_in h5, ru, intV, bs_nil]
      · simp [h5, ru, nul, bs_nil]
    · simp [h1, h2, h3, h4, ru, nul, bs_nil]
  · simp [h1, h2, h3, ru, nul, bs_nil]

end Go.Proofs.YtccgmaeflmbmlaaDoor

set_option linter.unusedVariables false
set_option linter.unusedSimpArgs false
namespace Go.Proofs.YtccgmaeflmbmlaaDoor
open Go Go.Pu

theorem arith_int (f : Int → Int → Int) (a b : Int) : arith f (intV a) (intV b) = if in64 (f a b) then (intV (f a b), true) else (nul, false) := by
  unfold arith intV; simp
theorem intV_ok {a : Int} (h : i64 a) : (intV a).ok := ⟨by simp [intV, i64], h, by simp [intV]⟩
theorem nul_ok : nul.ok := ⟨by simp [nul, i64], by simp [nul, i64], by simp [nul]⟩
theorem i64_of {n : Int} (h : in64 n = true) : i64 n := by unfold i64; unfold in64 at h; exact of_decide_eq_true h

theorem Add_int (a b : Int) (ha : i64 a) (hb : i64 b) : (m_value_Add [.i 2, .i a, .s (bs []), .i 2, .i b, .s (bs [])]).res = some (0, ru (addV (intV a) (intV b))) := Add_res (intV a) (intV b) (intV_ok ha) (intV_ok hb)
theorem Sub_int (a b : Int) (ha : i64 a) (hb : i64 b) : (m_value_Sub [.i 2, .i a, .s (bs []), .i 2, .i b, .s (bs [])]).res = some (0, ru (subV (intV a) (intV b))) := Sub_res (intV a) (intV b) (intV_ok ha) (intV_ok hb)
theorem Mul_int (a b : Int) (ha : i64 a) (hb : i64 b) : (m_value_Mul [.i 2, .i a, .s (bs []), .i 2, .i b, .s (bs [])]).res = some (0, ru (mulV (intV a) (intV b))) := Mul_res (intV a) (intV b) (intV_ok ha) (intV_ok hb)

theorem valueSums_res (a b : Int) (ha : i64 a) (hb : i64 b) : (m_L01_ValueSums [.i a, .i b]).res = some (0, [.b true]) := by
  have h1 := Add_int a b ha hb
  have h2 := Add_int b a hb ha
  have h3 := Mul_int a b ha hb
  have h4 := Mul_int b a hb ha
  have e1 : mulV (intV b) (intV a) = mulV (intV a) (intV b) := by simp only [mulV, arith_int, Int.mul_comm]
  have e2 : addV (intV b) (intV a) = addV (intV a) (intV b) := by simp only [addV, arith_int, Int.add_comm]
  rw [e1] at h4
  rw [e2] at h2
  have hab : ∀ r, addV (intV a) (intV b) = r → r = (if in64 (a + b) then (intV (a + b), true) else (nul, false)) := fun r h => by rw [← h, addV, arith_int]
  simp only [m_L01_ValueSums, bs_nil, h1, h2, h3, h4, ok_some', out_some, res_test, res_stop, beq_self_eq_true, if_true, ru, uI_0, uI_s, uS_s, uS_0, uB_s, uB_0, bs_toList, Bool.and_true, Bool.not_true, Bool.false_eq_true, if_false, Bool.and_self]
  generalize hr : addV (intV a) (intV b) = r
  have := hab r hr
  by_cases h5 : in64 (a + b) = true
  · rw [if_pos h5] at this
    subst this
    have h6 := i64_of h5
    have h7 : in64 (a + b - b) = true := by rw [Int.add_sub_cancel]; exact decide_eq_true ha
    have s1 := Sub_int (a + b) b h6 hb
    rw [subV, arith_int, if_pos h7] at s1
    simp only [intV, ru] at s1 ⊢
    simp only [s1, ok_some', out_some, Bool.not_true, Bool.false_eq_true, if_false, beq_self_eq_true, if_true, uB_s, uB_0, uI_0, uI_s, uS_s, uS_0, bs_toList, Int.add_sub_cancel, Bool.and_self]
    by_cases c1 : b > 0
    · have c4 : ¬ a + b ≤ a := by omega
      simp [c1, c4]
    · by_cases c2 : b < 0
      · have c4 : a + b < a := by omega
        simp [c1, c2, c4]
      · have : b = 0 := by omega
        simp [this]
  · rw [if_neg h5] at this
    subst this
    have hh : ¬ (-9223372036854775808 ≤ a + b ∧ a + b < 9223372036854775808) := fun h => h5 (decide_eq_true h)
    unfold i64 at ha hb
    have c1 : (a > 0) = (b > 0) := by
      apply propext; omega
    have c2 : ¬ a = 0 := by omega
    have c3 : ¬ b = 0 := by omega
    simp [nul, c1, c2, c3]

theorem valueMuls_res (a b c : Int) (ha : i64 a) (hb : i64 b) (hc : i64 c) : (m_L01_ValueMuls [.i a, .i b, .i c]).res = some (0, [.b true]) := by
  simp only [m_L01_ValueMuls, res_test, res_stop, decide_eq_true_eq]
  by_cases g1 : a > 1000000
  · simp [g1]
  by_cases g2 : b > 1000000
  · simp [g2]
  by_cases g3 : c > 1000000
  · simp [g3]
  by_cases g4 : a < -1000000
  · simp [g4]
  by_cases g5 : b < -1000000
  · simp [g5]
  by_cases g6 : c < -1000000
  · simp [g6]
  have bnd : ∀ x y : Int, -2000000 ≤ x → x ≤ 2000000 → -2000000 ≤ y → y ≤ 2000000 → -4000000000000 ≤ x * y ∧ x * y ≤ 4000000000000 := by
    intro x y h1 h2 h3 h4
    have k1 : 0 ≤ (2000000 - x) * (2000000 + y) := Int.mul_nonneg (by omega) (by omega)
    have k2 : 0 ≤ (2000000 + x) * (2000000 - y) := Int.mul_nonneg (by omega) (by omega)
    have k3 : 0 ≤ (2000000 - x) * (2000000 - y) := Int.mul_nonneg (by omega) (by omega)
    have k4 : 0 ≤ (2000000 + x) * (2000000 + y) := Int.mul_nonneg (by omega) (by omega)
    simp only [Int.sub_mul, Int.mul_add, Int.add_mul, Int.mul_sub] at k1 k2 k3 k4
    omega
  have in_ : ∀ x : Int, -8000000000000 ≤ x → x ≤ 8000000000000 → in64 x = true := fun x h1 h2 => decide_eq_true (by omega)
  have b1 := bnd a (b + c) (by omega) (by omega) (by omega) (by omega)
  have b2 := bnd a b (by omega) (by omega) (by omega) (by omega)
  have b3 := bnd a c (by omega) (by omega) (by omega) (by omega)
  have i1 : in64 (b + c) = true := in_ _ (by omega) (by omega)
  have i2 : in64 (a * (b + c)) = true := in_ _ (by omega) (by omega)
  have i3 : in64 (a * b) = true := in_ _ (by omega) (by omega)
  have i4 : in64 (a * c) = true := in_ _ (by omega) (by omega)
  have i5 : in64 (a * b + a * c) = true := in_ _ (by omega) (by omega)
  have h0 := Add_int b c hb hc
  have h1 := Mul_int a (b + c) ha (i64_of i1)
  have h2 := Mul_int a b ha hb
  have h3 := Mul_int a c ha hc
  have h4 := Add_int (a * b) (a * c) (i64_of i3) (i64_of i4)
  have h5 := Mul_int a 0 ha (by simp [i64])
  have h6 := Mul_int 1 a (by simp [i64]) ha
  rw [addV, arith_int, if_pos i1] at h0
  rw [mulV, arith_int, if_pos i2] at h1
  rw [mulV, arith_int, if_pos i3] at h2
  rw [mulV, arith_int, if_pos i4] at h3
  rw [addV, arith_int, if_pos i5] at h4
  rw [mulV, arith_int, if_pos (by rw [Int.mul_zero]; rfl), Int.mul_zero] at h5
  rw [mulV, arith_int, if_pos (by rw [Int.one_mul]; exact decide_eq_true ha), Int.one_mul] at h6
  simp only [ru, intV] at h0 h1 h2 h3 h4 h5 h6
  simp only [if_neg g1, if_neg g2, if_neg g3, if_neg g4, if_neg g5, if_neg g6, bs_nil, h0, h1, h2, h3, h4, h5, h6, ok_some', out_some, beq_self_eq_true, if_true, uI_0, uI_s, uS_s, uS_0, uB_s, uB_0, bs_toList, Bool.and_self, Int.mul_add]

theorem valueOrder_res (u v w : Val) (hu : u.ok) (hv : v.ok) (hw : w.ok) : (m_L01_ValueOrder [.i u.k, .i u.n, .s (bs u.s), .i v.k, .i v.n, .s (bs v.s), .i w.k, .i w.n, .s (bs w.s)]).res = some (0, [.b true]) := by
  have h1 := value_Compare_res u v
  have h2 := value_Compare_res v w
  have h3 := value_Compare_res u w
  have h4 := value_Compare_res v u
  have r1 := cV.rng u v
  have a1 := cV.anti u v
  have t1 := cV.trans u v w
  have z1 := cV.zero u v
  have z2 := cV.zero v w
  have z3 := cV.zero u w
  have t2 := fun h => cV.lt_of_lt_of_le (a := u) (b := v) (d := w) h
  have t3 := fun h => cV.lt_of_le_of_lt (a := u) (b := v) (d := w) h
  simp only [m_L01_ValueOrder, h1, h2, h3, h4, ok_some', out_some, res_test, res_stop, beq_self_eq_true, if_true, uI_0, bs_size, bs_toList, eqV_c, eta, decide_eq_true_eq]
  have e0 : w64 (0 - cmpV v u) = cmpV u v := by rw [w64_eq (by omega) (by omega)]; omega
  rw [e0]
  have e1 : ((cmpV u v == 0) == decide (u = v)) = true := by
    rw [beq_iff_eq, Bool.eq_iff_iff]; simp [z1]
  simp only [e1, bne_self_eq_false, Bool.false_eq_true, if_false, Bool.not_true]
  generalize cmpV u v = x at *
  generalize cmpV v w = y at *
  generalize cmpV u w = z at *
  have n1 : ¬ x < -1 := by omega
  have n2 : ¬ x > 1 := by omega
  simp only [n1, n2, if_false]
  by_cases c1 : x ≤ 0
  · by_cases c2 : y ≤ 0
    · have c3 := t1 c1 c2
      by_cases c4 : x = 0
      · have : u = v := z1.1 c4
        have e2 : (z == 0) = (y == 0) := by rw [Bool.eq_iff_iff]; simp; rw [z3, z2, this]
        simp [c4, c2, c3, e2]
      · have c5 : z < 0 := t2 (by omega) c2
        have : ¬ z = 0 := by omega
        simp [c1, c2, c3, c4, this]
    · simp [c1, c2]
  · simp [c1]

end Go.Proofs.YtccgmaeflmbmlaaDoor

set_option linter.unusedVariables false
set_option linter.unusedSimpArgs false
namespace Go.Proofs.YtccgmaeflmbmlaaDoor
open Go Go.Pu

theorem RAnd_res (l : List Val) (hl : l.length ≤ 4398046511104) : (m_R01_And [.l (re l)]).res = some (0, (foldV false l).u) := by
  have key : ∀ n i, i + n = l.length → ∀ b : Bool, (∀ j (h : j < l.length), j < i → l[j] ≠ tru false) → (b = true ↔ ∀ j (h : j < l.length), j < i → l[j] = tru true) →
      (m_R01_And [.l (re l)]).res = some (0, (foldV false l).u) ∨ lres rd_R01_And_18_3 [.l (re l), .b b, .i (i : Nat), .i 0, .i 0, .s (bs [])] = (if tru false ∈ l then some (0, (tru false).u) else some (1, [.b (decide (∀ x ∈ l, x = tru true)), .i 0, .i 0, .s (bs [])])) := by
    intro n
    induction n with
    | zero =>
      intro i hi b h1 h2
      right
      have hi : i = l.length := by omega
      subst hi
      have hn : tru false ∉ l := fun hm => by
        obtain ⟨j, hj, e⟩ := List.mem_iff_getElem.1 hm
        exact h1 j hj hj e
      have hb : b = decide (∀ x ∈ l, x = tru true) := by
        rw [Bool.eq_iff_iff, h2, decide_eq_true_eq]
        constructor
        · intro h x hx
          obtain ⟨j, hj, rfl⟩ := List.mem_iff_getElem.1 hx
          exact h j hj hj
        · intro h j hj _
          exact h _ (List.getElem_mem hj)
      rw [if_neg hn, ← hb]
      refine lres_stop ?_
      simp [rd_R01_And_18_3, re]
    | succ n ih =>
      intro i hi b h1 h2
      have h : i < l.length := by omega
      have rd : (rd_R01_And_18_3 [.l (re l), .b b, .i (i : Nat), .i 0, .i 0, .s (bs [])]).val = if l[i] = tru false then some (.stop 0 (tru false).u) else some (.next [.l (re l), .b (b && decide (l[i] = tru true)), .i ((i + 1 : Nat) : Int), .i 0, .i 0, .s (bs [])]) := by
        simp only [rd_R01_And_18_3, re, el_map _ _ h, rt_test, rt_stop, rt_next, ln_map, Val.e, cI_p, cI_s, cS_s, cS_p, bs_toList, inR_cast, eqV_c, eta, w64_succ (i := i) (by omega), Int.ofNat_lt, h, decide_true, if_true, bs_nil, decide_eq_true_eq]
        rw [show (⟨1, 0, []⟩ : Val) = tru false from rfl, show (⟨1, 1, []⟩ : Val) = tru true from rfl]
        by_cases e : l[i] = tru false
        · simp [e, tru, Val.u]
        · simp only [e, if_false]
          cases b <;> simp
      by_cases e : l[i] = tru false
      · right
        rw [if_pos e] at rd
        rw [lres_stop rd, if_pos (by rw [← e]; exact List.getElem_mem h)]
      · rw [if_neg e] at rd
        rcases ih (i + 1) (by omega) (b && decide (l[i] = tru true)) (fun j hj hji => by
          by_cases ej : j = i
          · subst ej; exact e
          · exact h1 j hj (by omega)) (by
          rw [Bool.and_eq_true, h2, decide_eq_true_eq]
          constructor
          · rintro ⟨g1, g2⟩ j hj hji
            by_cases ej : j = i
            · subst ej; exact g2
            · exact g1 j hj (by omega)
          · intro g
            exact ⟨fun j hj hji => g j hj (by omega), g i h (by omega)⟩) with h3 | h3
        · exact .inl h3
        · right
          rw [lres_next rd, h3]
  rcases key l.length 0 (by omega) true (fun j _ h => by omega) (by simp) with h | h
  · exact h
  · simp only [Int.natCast_zero, bs_nil] at h
    by_cases e : tru false ∈ l
    · rw [if_pos e] at h
      have f1 : foldV false l = tru false := by unfold foldV; rw [if_pos e]
      rw [f1]
      simp only [m_R01_And, bs_nil, h, ok_some', out_some, res_test, res_stop, beq_self_eq_true, if_true, Val.u, uI_0, uI_s, uS_s, uS_0]
    · rw [if_neg e] at h
      by_cases e2 : ∀ x ∈ l, x = tru true
      · have f1 : foldV false l = tru true := by unfold foldV; rw [if_neg e]; exact if_pos e2
        rw [f1]
        simp only [m_R01_And, bs_nil, h, ok_some', out_some, res_test, res_stop, show ((0 : Nat) == 1) = false from rfl, Bool.false_eq_true, if_false, beq_self_eq_true, if_true, uB_0, decide_eq_true e2]
        rfl
      · have f1 : foldV false l = nul := by unfold foldV; rw [if_neg e]; exact if_neg e2
        rw [f1]
        simp only [m_R01_And, bs_nil, h, ok_some', out_some, res_test, res_stop, show ((0 : Nat) == 1) = false from rfl, Bool.false_eq_true, if_false, beq_self_eq_true, if_true, uB_0, decide_eq_false e2]
        rfl

theorem ROr_res (l : List Val) (hl : l.length ≤ 4398046511104) : (m_R01_Or [.l (re l)]).res = some (0, (foldV true l).u) := by
  have key : ∀ n i, i + n = l.length → ∀ b : Bool, (∀ j (h : j < l.length), j < i → l[j] ≠ tru true) → (b = true ↔ ∀ j (h : j < l.length), j < i → l[j] = tru false) →
      lres rd_R01_Or_20_3 [.l (re l), .b b, .i (i : Nat), .i 0, .i 0, .s (bs [])] = (if tru true ∈ l then some (0, (tru true).u) else some (1, [.b (decide (∀ x ∈ l, x = tru false)), .i 0, .i 0, .s (bs [])])) := by
    intro n
    induction n with
    | zero =>
      intro i hi b h1 h2
      have hi : i = l.length := by omega
      subst hi
      have hn : tru true ∉ l := fun hm => by
        obtain ⟨j, hj, e⟩ := List.mem_iff_getElem.1 hm
        exact h1 j hj hj e
      have hb : b = decide (∀ x ∈ l, x = tru false) := by
        rw [Bool.eq_iff_iff, h2, decide_eq_true_eq]
        constructor
        · intro h x hx
          obtain ⟨j, hj, rfl⟩ := List.mem_iff_getElem.1 hx
          exact h j hj hj
        · intro h j hj _
          exact h _ (List.getElem_mem hj)
      rw [if_neg hn, ← hb]
      refine lres_stop ?_
      simp [rd_R01_Or_20_3, re]
    | succ n ih =>
      intro i hi b h1 h2
      have h : i < l.length := by omega
      have rd : (rd_R01_Or_20_3 [.l (re l), .b b, .i (i : Nat), .i 0, .i 0, .s (bs [])]).val = if l[i] = tru true then some (.stop 0 (tru true).u) else some (.next [.l (re l), .b (b && decide (l[i] = tru false)), .i ((i + 1 : Nat) : Int), .i 0, .i 0, .s (bs [])]) := by
        simp only [rd_R01_Or_20_3, re, el_map _ _ h, rt_test, rt_stop, rt_next, ln_map, Val.e, cI_p, cI_s, cS_s, cS_p, bs_toList, inR_cast, eqV_c, eta, w64_succ (i := i) (by omega), Int.ofNat_lt, h, decide_true, if_true, bs_nil, decide_eq_true_eq]
        rw [show (⟨1, 0, []⟩ : Val) = tru false from rfl, show (⟨1, 1, []⟩ : Val) = tru true from rfl]
        by_cases e : l[i] = tru true
        · simp [e, tru, Val.u]
        · simp only [e, if_false]
          cases b <;> simp
      by_cases e : l[i] = tru true
      · rw [if_pos e] at rd
        rw [lres_stop rd, if_pos (by rw [← e]; exact List.getElem_mem h)]
      · rw [if_neg e] at rd
        rw [lres_next rd]
        exact ih (i + 1) (by omega) (b && decide (l[i] = tru false)) (fun j hj hji => by
          by_cases ej : j = i
          · subst ej; exact e
          · exact h1 j hj (by omega)) (by
          rw [Bool.and_eq_true, h2, decide_eq_true_eq]
          constructor
          · rintro ⟨g1, g2⟩ j hj hji
            by_cases ej : j = i
            · subst ej; exact g2
            · exact g1 j hj (by omega)
          · intro g
            exact ⟨fun j hj hji => g j hj (by omega), g i h (by omega)⟩)
  have h := key l.length 0 (by omega) true (fun j _ h => by omega) (by simp)
  simp only [Int.natCast_zero, bs_nil] at h
  by_cases e : tru true ∈ l
  · rw [if_pos e] at h
    have f1 : foldV true l = tru true := by unfold foldV; rw [if_pos e]
    rw [f1]
    simp only [m_R01_Or, bs_nil, h, ok_some', out_some, res_test, res_stop, beq_self_eq_true, if_true, Val.u, uI_0, uI_s, uS_s, uS_0]
  · rw [if_neg e] at h
    by_cases e2 : ∀ x ∈ l, x = tru false
    · have f1 : foldV true l = tru false := by unfold foldV; rw [if_neg e]; exact if_pos e2
      rw [f1]
      simp only [m_R01_Or, bs_nil, h, ok_some', out_some, res_test, res_stop, show ((0 : Nat) == 1) = false from rfl, Bool.false_eq_true, if_false, beq_self_eq_true, if_true, uB_0, decide_eq_true e2]
      rfl
    · have f1 : foldV true l = nul := by unfold foldV; rw [if_neg e]; exact if_neg e2
      rw [f1]
      simp only [m_R01_Or, bs_nil, h, ok_some', out_some, res_test, res_stop, show ((0 : Nat) == 1) = false from rfl, Bool.false_eq_true, if_false, beq_self_eq_true, if_true, uB_0, decide_eq_false e2]
      rfl

theorem valueLogic_res (l : List Val) (hl : l.length ≤ 4398046511104) (b : Bool) : (m_L01_ValueLogic [.l (re l), .b b]).res = some (0, [.b true]) := by
  have hN := fun v : Val => Not_res v
  have hR := fun v : Val => RNot_res v
  simp only [Val.u] at hN hR
  have h := loop_acc (rd := rd_L01_ValueLogic_3_4) l.length (fun i => [.l (re l), .b b, .i (i : Nat)]) (some (1, [.l (re l), .b b]))
    (lres_stop (by simp [rd_L01_ValueLogic_3_4, re])) (by
    intro i h
    simp only [rd_L01_ValueLogic_3_4, re, el_map _ _ h, rt_test, rt_stop, rt_next, ln_map, Val.e, cI_p, cI_s, cS_s, cS_p, bs_toList, inR_cast, w64_succ (i := i) (by omega), Int.ofNat_lt, h, decide_true, if_true, hN, hR, ok_some', out_some, beq_self_eq_true, uI_0, uI_s, uS_s, uS_0, Bool.and_self, Bool.not_true, Bool.false_eq_true, if_false])
  simp only [Int.natCast_zero] at h
  have h1 := And_res l hl
  have h2 := Or_res l hl
  have h3 := RAnd_res l hl
  have h4 := ROr_res l hl
  have h5 := Truth_res b
  have h6 := RTruth_res b
  simp only [Val.u] at h1 h2 h3 h4 h5 h6
  by_cases g : (l.length : Int) > 100
  · simp only [m_L01_ValueLogic, ln_re, decide_eq_true g, res_test, if_true, res_stop]
  · simp only [m_L01_ValueLogic, ln_re, decide_eq_false g, Bool.false_eq_true, if_false, res_test, res_stop, h, ok_some', out_some, uL_0, uB_s, uB_0, h1, h2, h3, h4, h5, h6, uI_0, uI_s, uS_s, uS_0, show ((0 : Nat) == 1) = false from rfl, beq_self_eq_true, if_true, Bool.and_self]

end Go.Proofs.YtccgmaeflmbmlaaDoor

set_option linter.unusedVariables false
set_option linter.unusedSimpArgs false
namespace Go.Proofs.YtccgmaeflmbmlaaDoor
open Go Go.Pu

theorem tru_ne (b : Bool) : tru b ≠ tru (!b) := by cases b <;> decide
theorem tru_nul (b : Bool) : tru b ≠ nul := by cases b <;> decide

theorem fold_t (b : Bool) (l : List Val) : foldV b l = tru b ↔ tru b ∈ l := by
  unfold foldV
  split
  · rename_i h; simp [h]
  · rename_i h
    split
    · simp only [h, iff_false]; exact fun e => tru_ne b e.symm
    · simp only [h, iff_false]; exact fun e => tru_nul b e.symm
theorem fold_f (b : Bool) (l : List Val) : foldV b l = tru (!b) ↔ ∀ x ∈ l, x = tru (!b) := by
  unfold foldV
  split
  · rename_i h
    constructor
    · intro e; exact absurd e (tru_ne b)
    · intro e; exact e _ h
  · split
    · rename_i h; simp only [true_iff]; exact h
    · rename_i h; simp only [h, iff_false]; exact fun e => tru_nul (!b) e.symm
theorem fold_n (b : Bool) {l : List Val} (h1 : ¬ tru b ∈ l) (h2 : ¬ ∀ x ∈ l, x = tru (!b)) : foldV b l = nul := by
  unfold foldV; rw [if_neg h1, if_neg h2]

theorem fold_app (b : Bool) (l m : List Val) : foldV b (l ++ m) = foldV b [foldV b l, foldV b m] := by
  by_cases h1 : tru b ∈ l ++ m
  · rw [(fold_t b _).2 h1]
    symm
    rw [fold_t]
    rcases List.mem_append.1 h1 with h | h
    · simp [(fold_t b l).2 h]
    · simp [(fold_t b m).2 h]
  · have g1 : ¬ tru b ∈ [foldV b l, foldV b m] := by
      intro h
      rcases List.mem_cons.1 h with e | h
      · exact h1 (List.mem_append_left _ ((fold_t b l).1 e.symm))
      · exact h1 (List.mem_append_right _ ((fold_t b m).1 (List.mem_singleton.1 h).symm))
    by_cases h2 : ∀ x ∈ l ++ m, x = tru (!b)
    · rw [(fold_f b _).2 h2]
      symm
      rw [fold_f]
      intro x hx
      rcases List.mem_cons.1 hx with rfl | hx
      · exact (fold_f b l).2 fun y hy => h2 y (List.mem_append_left _ hy)
      · rw [List.mem_singleton.1 hx]
        exact (fold_f b m).2 fun y hy => h2 y (List.mem_append_right _ hy)
    · rw [fold_n b h1 h2, fold_n b g1]
      intro h
      apply h2
      intro x hx
      rcases List.mem_append.1 hx with hx | hx
      · exact (fold_f b l).1 (h _ (by simp)) x hx
      · exact (fold_f b m).1 (h _ (by simp)) x hx

theorem fold_comm (b : Bool) (x y : Val) : foldV b [x, y] = foldV b [y, x] := by
  have h : ∀ z, z ∈ [x, y] ↔ z ∈ [y, x] := fun z => by simp [or_comm]
  unfold foldV
  simp only [h]

theorem not_iff (b : Bool) (x : Val) : notV x = tru b ↔ x = tru (!b) := by
  unfold notV
  cases b
  · split
    · rename_i h; simp [h]
    · rename_i h
      split
      · simp only [Bool.not_false, h, iff_false]; decide
      · simp only [Bool.not_false, h, iff_false]; decide
  · split
    · rename_i h; subst h; decide
    · split
      · rename_i h; simp [h]
      · rename_i h; simp only [Bool.not_true, h, iff_false]; decide

theorem not_tru (b : Bool) : notV (tru b) = tru (!b) := by rw [not_iff, Bool.not_not]
theorem not_nul : notV nul = nul := by decide

theorem fold_not (b : Bool) (l : List Val) : notV (foldV b l) = foldV (!b) (l.map notV).reverse := by
  have m1 : tru (!b) ∈ (l.map notV).reverse ↔ tru b ∈ l := by
    rw [List.mem_reverse, List.mem_map]
    constructor
    · rintro ⟨x, hx, e⟩
      rw [not_iff, Bool.not_not] at e
      rw [← e]; exact hx
    · intro h; exact ⟨_, h, not_tru b⟩
  have m2 : (∀ x ∈ (l.map notV).reverse, x = tru (!!b)) ↔ ∀ x ∈ l, x = tru (!b) := by
    constructor
    · intro h x hx
      have := h (notV x) (List.mem_reverse.2 (List.mem_map.2 ⟨x, hx, rfl⟩))
      rw [Bool.not_not, not_iff] at this
      exact this
    · intro h x hx
      obtain ⟨y, hy, rfl⟩ := List.mem_map.1 (List.mem_reverse.1 hx)
      rw [h y hy, not_tru]
  by_cases h1 : tru b ∈ l
  · rw [(fold_t b l).2 h1, not_tru]
    exact ((fold_t (!b) _).2 (m1.2 h1)).symm
  · by_cases h2 : ∀ x ∈ l, x = tru (!b)
    · rw [(fold_f b l).2 h2, not_tru]
      exact ((fold_f (!b) _).2 (m2.2 h2)).symm
    · rw [fold_n b h1 h2, not_nul, fold_n (!b) (fun h => h1 (m1.1 h)) (fun h => h2 (m2.1 h))]

theorem valueTurns_res (l m : List Val) (hl : l.length ≤ 4398046511104) (hm : m.length ≤ 4398046511104) : (m_L01_ValueTurns [.l (re l), .l (re m)]).res = some (0, [.b true]) := by
  simp only [m_L01_ValueTurns, res_test, res_stop, decide_eq_true_eq, ln_re]
  by_cases g1 : (l.length : Int) > 60
  · simp [g1]
  by_cases g2 : (m.length : Int) > 60
  · simp [g2]
  simp only [if_neg g1, if_neg g2]
  have hN := fun v : Val => Not_res v
  simp only [Val.u] at hN
  have h := loop_ix (l.length + m.length) (rd := rd_L01_ValueTurns_4_5)
    (fun i => [.l (re l), .l (re m), .i (i : Nat), .l (re ((l ++ m).take i)), .l (re (((l ++ m).take i).map notV).reverse)])
    (fun i => decide ((l ++ m).getD i nul = tru true ∨ (l ++ m).getD i nul = tru false ∨ (l ++ m).getD i nul = nul)) 0 1 (fun _ => [.b true]) [.l (re l), .l (re m), .l (re (l ++ m)), .l (re ((l ++ m).map notV).reverse)]
    (by
      have e1 : w64 ((l.length : Int) + (m.length : Int)) = ((l.length + m.length : Nat) : Int) := by rw [w64_eq (by omega) (by omega)]; omega
      simp only [rd_L01_ValueTurns_4_5, ln_re, e1, Int.lt_irrefl, decide_false, rt_test, Bool.false_eq_true, if_false, rt_stop]
      rw [List.take_of_length_le (by simp)]) (by
    intro i hi _
    have e1 : w64 ((l.length : Int) + (m.length : Int)) = ((l.length + m.length : Nat) : Int) := by rw [w64_eq (by omega) (by omega)]; omega
    have hlm : i < (l ++ m).length := by simpa using hi
    have hget : (l ++ m).getD i nul = (l ++ m)[i] := by rw [List.getD, List.getElem?_eq_getElem hlm]; rfl
    have htk : (l ++ m).take (i + 1) = (l ++ m).take i ++ [(l ++ m)[i]] := by rw [List.take_add_one, List.getElem?_eq_getElem hlm]; rfl
    have hb1 : ((re ((l ++ m).take i)).length + 1) * 32 ≤ 140737488355328 := by simp [re]; omega
    have hb2 : (1 + (re (((l ++ m).take i).map notV).reverse).length) * 32 ≤ 140737488355328 := by simp [re]; omega
    have n1 : re (((l ++ m).take i ++ [(l ++ m)[i]])) = re ((l ++ m).take i) ++ [[pI (l ++ m)[i].k, pI (l ++ m)[i].n, pS (bs (l ++ m)[i].s)]] := by unfold re; rw [List.map_append]; rfl
    have n2 : re ((((l ++ m).take i ++ [(l ++ m)[i]]).map notV).reverse) = [[pI (notV (l ++ m)[i]).k, pI (notV (l ++ m)[i]).n, pS (bs (notV (l ++ m)[i]).s)]] ++ re (((l ++ m).take i).map notV).reverse := by unfold re; rw [List.map_append, List.reverse_append, List.map_append]; rfl
    rw [hget, htk, n1, n2]
    generalize hA : re ((l ++ m).take i) = A at *
    generalize hB : re (((l ++ m).take i).map notV).reverse = B at *
    have lt1 : ((i : Int) < ((l.length + m.length : Nat) : Int)) := by omega
    simp only [rd_L01_ValueTurns_4_5, ln_re, e1, lt1, decide_true, rt_test, if_true, w64_succ (i := i) (by omega)]
    have key : ∀ (x : Val) (Y Z : Option Rv), (if (!decide (x = ⟨1, 1, []⟩)) = true then (if (!decide (x = ⟨1, 0, []⟩)) = true then (if (!decide (x = ⟨0, 0, []⟩)) = true then Z else Y) else Y) else Y) = if decide (x = tru true ∨ x = tru false ∨ x = nul) = true then Y else Z := by
      intro x Y Z
      rw [show (⟨1, 1, []⟩ : Val) = tru true from rfl, show (⟨1, 0, []⟩ : Val) = tru false from rfl, show (⟨0, 0, []⟩ : Val) = nul from rfl]
      by_cases a1 : x = tru true <;> by_cases a2 : x = tru false <;> by_cases a3 : x = nul <;> simp [a1, a2, a3]
    by_cases hil : i < l.length
    · have ex : (l ++ m)[i] = l[i] := List.getElem_append_left hil
      have lt2 : ((i : Int) < (l.length : Int)) := by omega
      rw [ex]
      simp only [lt2, decide_true, if_true, inR_cast, hil, re, el_map _ _ hil, Val.e, cI_p, cI_s, cS_s, cS_p, bs_toList, eqV_c, eta, hb1, hb2, hN, ok_some', out_some, uI_0, uI_s, uS_s, uS_0, beq_self_eq_true, rt_next, rt_stop]
      exact key _ _ _
    · have hj : i - l.length < m.length := by omega
      have ex : (l ++ m)[i] = m[i - l.length] := List.getElem_append_right (by omega)
      have lt2 : ¬ ((i : Int) < (l.length : Int)) := by omega
      have e3 : w64 ((i : Int) - (l.length : Int)) = ((i - l.length : Nat) : Int) := by rw [w64_eq (by omega) (by omega)]; omega
      rw [ex]
      simp only [lt2, decide_false, Bool.false_eq_true, if_false, e3, inR_cast, hj, decide_true, if_true, re, el_map _ _ hj, Val.e, cI_p, cI_s, cS_s, cS_p, bs_toList, eqV_c, eta, hb1, hb2, hN, ok_some', out_some, uI_0, uI_s, uS_s, uS_0, beq_self_eq_true, rt_next, rt_stop]
      exact key _ _ _)
  simp only [Int.natCast_zero, List.take_zero, List.map_nil, List.reverse_nil] at h
  rw [show re [] = [] from rfl] at h
  rcases h with ⟨_, h⟩ | ⟨i, _, _, _, h⟩
  · have L : (l ++ m).length ≤ 4398046511104 := by simp; omega
    have L2 : ((l ++ m).map notV).reverse.length ≤ 4398046511104 := by simp; omega
    have a1 := And_res _ L
    have a2 := Or_res _ L
    have a3 := Or_res _ L2
    have a4 := And_res _ L2
    have a5 := And_res l hl
    have a6 := And_res m hm
    have a7 := Or_res l hl
    have a8 := Or_res m hm
    have a9 := And_res [foldV false l, foldV false m] (by simp)
    have a10 := Or_res [foldV true m, foldV true l] (by simp)
    have n1 := Not_res (foldV false (l ++ m))
    have n2 := Not_res (foldV true (l ++ m))
    have e1 := fold_not false (l ++ m)
    have e2 := fold_not true (l ++ m)
    have e3 := fold_app false l m
    have e4 : foldV true (l ++ m) = foldV true [foldV true m, foldV true l] := by rw [fold_app, fold_comm]
    rw [show re [foldV false l, foldV false m] = [[pI (foldV false l).k, pI (foldV false l).n, pS (bs (foldV false l).s)], [pI (foldV false m).k, pI (foldV false m).n, pS (bs (foldV false m).s)]] from rfl] at a9
    rw [show re [foldV true m, foldV true l] = [[pI (foldV true m).k, pI (foldV true m).n, pS (bs (foldV true m).s)], [pI (foldV true l).k, pI (foldV true l).n, pS (bs (foldV true l).s)]] from rfl] at a10
    rw [Bool.not_false] at e1
    rw [Bool.not_true] at e2
    simp only [Val.u] at *
    simp only [h, ok_some', out_some, uL_0, uL_s, a1, a2, a3, a4, a5, a6, a7, a8, a9, a10, n1, n2, uI_0, uI_s, uS_s, uS_0, beq_self_eq_true, if_true, bs_toList, eqV_c, eta, e1, e2, decide_true, show ((1 : Nat) == 0) = false from rfl, show ((0 : Nat) == 1) = false from rfl, Bool.false_eq_true, if_false]
    rw [← e3, ← e4]
    simp
  · simp only [h, ok_some', out_some, uB_0, beq_self_eq_true, if_true]

end Go.Proofs.YtccgmaeflmbmlaaDoor

set_option linter.unusedVariables false
set_option linter.unusedSimpArgs false
namespace Go.Proofs.YtccgmaeflmbmlaaDoor
open Go Go.Pu

def dbl (s : List UInt8) : List UInt8 := s.flatMap fun b => if b = 39 then [39, 39] else [b]
@[simp] theorem dbl_nil : dbl [] = [] := rfl
theorem dbl_cons (b : UInt8) (s : List UInt8) : dbl (b :: s) = (if b = 39 then [39, 39] else [b]) ++ dbl s := by simp [dbl]
theorem dbl_app (s t : List UInt8) : dbl (s ++ t) = dbl s ++ dbl t := by simp [dbl]
theorem dbl_same {s : List UInt8} (h : (39 : UInt8) ∉ s) : dbl s = s := by
  induction s with
  | nil => rfl
  | cons b s ih =>
    rw [dbl_cons, ih (fun h' => h (List.mem_cons_of_mem _ h')), if_neg (fun e => h (by rw [e]; exact List.mem_cons_self ..))]
    rfl
theorem dbl_len (s : List UInt8) : (dbl s).length ≤ 2 * s.length := by
  induction s with
  | nil => simp
  | cons b s ih => rw [dbl_cons]; split <;> simp <;> omega

theorem ixb_none {s : List UInt8} {c : UInt8} (h : c ∉ s) : Lib.indexByte s c = -1 := by
  induction s with
  | nil => rfl
  | cons b s ih =>
    unfold Lib.indexByte
    have hb : ¬ b = c := fun e => h (by rw [e]; exact List.mem_cons_self ..)
    rw [ih (fun h' => h (List.mem_cons_of_mem _ h'))]
    simp [hb]

theorem ixb_at {p q : List UInt8} {c : UInt8} (h : c ∉ p) : Lib.indexByte (p ++ c :: q) c = p.length := by
  induction p with
  | nil => simp [Lib.indexByte]
  | cons b p ih =>
    have hb : ¬ b = c := fun e => h (by rw [e]; exact List.mem_cons_self ..)
    have h2 := ih (fun h' => h (List.mem_cons_of_mem _ h'))
    rw [List.cons_append]
    unfold Lib.indexByte
    rw [h2]
    have : ((p.length : Int) == -1) = false := by rw [beq_eq_false_iff_ne]; omega
    simp [hb, this]

theorem repl_dbl : ∀ (n : Nat) (s : List UInt8) (fuel : Nat), s.length ≤ n → s.length < fuel → Lib.replaceK [39] [39, 39] (Lib.countFrom [39] fuel s) s = dbl s ∧ Lib.countFrom [39] fuel s ≤ s.length := by
  intro n
  induction n with
  | zero =>
    intro s fuel h1 h2
    have : s = [] := List.eq_nil_of_length_eq_zero (by omega)
    subst this
    cases fuel with
    | zero => omega
    | succ fuel => exact ⟨rfl, Nat.le_refl _⟩
  | succ n ih =>
    intro s fuel h1 h2
    cases fuel with
    | zero => omega
    | succ fuel =>
      by_cases hm : (39 : UInt8) ∈ s
      · obtain ⟨p, q, rfl, hp⟩ := List.eq_append_cons_of_mem hm
        have hi : Lib.index (p ++ 39 :: q) [39] = (p.length : Nat) := by rw [Lib.index_one, ixb_at hp]
        have hne : ((p.length : Int) == -1) = false := by rw [beq_eq_false_iff_ne]; omega
        have hd : (p ++ 39 :: q).drop (p.length + 1) = q := by
          rw [← List.drop_drop, List.drop_left]; rfl
        simp only [List.length_append, List.length_cons] at h1 h2
        obtain ⟨k1, k2⟩ := ih q fuel (by omega) (by omega)
        have hc : Lib.countFrom [39] (fuel + 1) (p ++ 39 :: q) = Lib.countFrom [39] fuel q + 1 := by
          rw [Lib.countFrom, hi, hne]
          simp only [Bool.false_eq_true, if_false, Int.toNat_natCast, List.length_singleton, hd]
          omega
        rw [hc]
        refine ⟨?_, by simp only [List.length_append, List.length_cons]; omega⟩
        rw [Lib.replaceK_hit _ _ _ _ p.length hi, List.take_left, List.length_singleton, hd, k1, dbl_app, dbl_cons, if_pos rfl, dbl_same hp]
        simp
      · have hi : Lib.index s [39] = -1 := by rw [Lib.index_one, ixb_none hm]
        have hc : Lib.countFrom [39] (fuel + 1) s = 0 := by rw [Lib.countFrom, hi]; rfl
        rw [hc, dbl_same hm]
        exact ⟨rfl, Nat.zero_le _⟩

theorem replB_dbl (s : List UInt8) : replB (bs s) (bs [39]) (bs [39, 39]) = bs (dbl s) := by
  have h := (repl_dbl s.length s (s.length + 1) (Nat.le_refl _) (by omega)).1
  have e1 : ([39] == ([39, 39] : List UInt8)) = false := by decide
  show (⟨(Lib.replaceAll s [39] [39, 39]).toArray⟩ : ByteArray) = _
  unfold Lib.replaceAll Lib.replace Lib.replaceNum
  simp only [e1, Bool.false_eq_true, if_false, show ((-1 : Int) < 0) from by decide, true_or, if_true]
  unfold Lib.count
  rw [h]
  rfl

theorem replOk_of {s : List UInt8} (h : s.length ≤ 100000) : replOk (bs s) (bs [39]) (bs [39, 39]) = true := by
  have h2 := (repl_dbl s.length s (s.length + 1) (Nat.le_refl _) (by omega)).2
  have h3 : Lib.countB (bs s) (bs [39]) = Lib.countFrom [39] (s.length + 1) s := rfl
  unfold replOk
  rw [decide_eq_true_eq]
  simp only [bs_size, List.length_cons, List.length_nil]
  rw [h3]
  omega

/-- a value's text -/
def txt (v : Val) : List UInt8 :=
  if v.k = 0 then [110, 117, 108, 108] else if v.k = 1 then (if v.n ≠ 0 then [116, 114, 117, 101] else [102, 97, 108, 115, 101]) else if v.k = 2 then Lib.itoa v.n else if v.k = 3 then 39 :: (dbl v.s ++ [39]) else [63]

theorem bs_app (a b : List UInt8) : bs a ++ bs b = bs (a ++ b) := by
  apply ByteArray.ext
  simp [bs, ByteArray.data_append]

theorem bs_lit (l : List UInt8) : ({ data := l.toArray } : ByteArray) = bs l := rfl
theorem itoaB_bs (n : Int) : itoaB n = bs (Lib.itoa n) := rfl

theorem FormatBool_res (b : Bool) : (m_strconv_FormatBool [.b b]).res = some (0, [.s (bs (if b then [116, 114, 117, 101] else [102, 97, 108, 115, 101]))]) := by
  cases b <;> simp [m_strconv_FormatBool, bs]

theorem Text_res (v : Val) (hv : v.ok) (hs : v.s.length ≤ 100000) : (m_value_Text [.i v.k, .i v.n, .s (bs v.s)]).res = some (0, [.s (bs (txt v))]) := by
  have h1 := FormatBool_res (v.n != 0)
  have h2 := replOk_of hs
  have h3 := replB_dbl v.s
  have h4 : inI64 v.n = true := by
    have := hv.2.1; unfold i64 at this; unfold inI64; rw [decide_eq_true_eq]; omega
  have h5 := dbl_len v.s
  have e1 : ({ data := #[(39 : UInt8)] } : ByteArray) = bs [39] := rfl
  have e2 : ({ data := #[(39 : UInt8), (39 : UInt8)] } : ByteArray) = bs [39, 39] := rfl
  simp only [m_value_Text, e1, e2, res_test, res_stop, h1, h2, h3, h4, ok_some', out_some, uS_0, beq_self_eq_true, if_true, bs_app, bs_size, itoaB_bs, txt]
  by_cases k0 : v.k = 0
  · simp [k0, bs]
  by_cases k1 : v.k = 1
  · by_cases n0 : v.n = 0 <;> simp [k1, n0]
  by_cases k2 : v.k = 2
  · simp [k2]
  by_cases k3 : v.k = 3
  · have g1 : decide ((1 : Int) + ((dbl v.s).length : Int) ≤ 9223372036854775807) = true := by rw [decide_eq_true_eq]; omega
    have g2 : decide ((([39] ++ dbl v.s : List UInt8).length : Int) + 1 ≤ 9223372036854775807) = true := by rw [decide_eq_true_eq]; simp; omega
    have g1' : decide (1 + (dbl v.s).length ≤ 9223372036854775807) = true := by rw [decide_eq_true_eq]; omega
    have g2' : decide (([39] ++ dbl v.s : List UInt8).length + 1 ≤ 9223372036854775807) = true := by rw [decide_eq_true_eq]; simp; omega
    simp only [k3, g1', g2', if_true]
    simp
  · simp [k0, k1, k2, k3, bs]

/-! unlike values have unlike texts, whatever stands behind them -/

def dig (b : UInt8) : Bool := decide (48 ≤ b.toNat ∧ b.toNat ≤ 57)

theorem dig_of {k : Nat} (h : k < 10) : dig (UInt8.ofNat (48 + k)) = true ∧ (UInt8.ofNat (48 + k)).toNat = 48 + k := by
  have : (UInt8.ofNat (48 + k)).toNat = 48 + k := by simp [UInt8.toNat_ofNat']; omega
  exact ⟨by unfold dig; rw [decide_eq_true_eq, this]; omega, this⟩

def valD (l : List UInt8) : Nat := l.foldl (fun a d => 10 * a + (d.toNat - 48)) 0

theorem dec_spec : ∀ (n u : Nat), u < n → (∀ b ∈ Lib.decDigits u, dig b = true) ∧ Lib.decDigits u ≠ [] ∧ valD (Lib.decDigits u) = u
  | 0, u, h => by omega
  | n + 1, u, h => by
    by_cases h10 : u < 10
    · obtain ⟨g1, g2⟩ := dig_of h10
      rw [Lib.decDigits_one h10]
      exact ⟨by simpa using g1, by simp, by simp only [valD, List.foldl, g2]; omega⟩
    · obtain ⟨g1, g2, g3⟩ := dec_spec n (u / 10) (by omega)
      obtain ⟨d1, d2⟩ := dig_of (k := u % 10) (by omega)
      rw [Lib.decDigits, dif_neg h10]
      refine ⟨fun b hb => ?_, by simp, ?_⟩
      · rcases List.mem_append.1 hb with hb | hb
        · exact g1 b hb
        · rw [List.mem_singleton.1 hb]; exact d1
      · unfold valD at g3 ⊢
        rw [List.foldl_append, g3]
        simp only [List.foldl, d2]
        omega

theorem dec_inj {a b : Nat} (h : Lib.decDigits a = Lib.decDigits b) : a = b := by
  rw [← (dec_spec (a + 1) a (by omega)).2.2, ← (dec_spec (b + 1) b (by omega)).2.2, h]

/-- what stands behind does not go on with a digit, a letter, or a quote -/
def stopB : List UInt8 → Bool
  | [] => true
  | b :: _ => !(dig b) && decide (b ≠ 39)

theorem digs_split : ∀ {p q x y : List UInt8}, (∀ b ∈ p, dig b = true) → (∀ b ∈ q, dig b = true) → stopB x = true → stopB y = true → p ++ x = q ++ y → p = q ∧ x = y
  | [], [], x, y, _, _, _, _, h => ⟨rfl, h⟩
  | [], b :: q, x, y, _, hq, hx, _, h => by
    simp only [List.nil_append, List.cons_append] at h
    subst h
    have := hq b (by simp)
    simp [stopB, this] at hx
  | a :: p, [], x, y, hp, _, _, hy, h => by
    simp only [List.nil_append, List.cons_append] at h
    subst h
    have := hp a (by simp)
    simp [stopB, this] at hy
  | a :: p, b :: q, x, y, hp, hq, hx, hy, h => by
    simp only [List.cons_append, List.cons.injEq] at h
    obtain ⟨rfl, h⟩ := h
    obtain ⟨rfl, e⟩ := digs_split (fun c hc => hp c (by simp [hc])) (fun c hc => hq c (by simp [hc])) hx hy h
    exact ⟨rfl, e⟩

theorem itoa_split {a b : Int} {x y : List UInt8} (hx : stopB x = true) (hy : stopB y = true) (h : Lib.itoa a ++ x = Lib.itoa b ++ y) : a = b ∧ x = y := by
  have hd : ∀ u, ∀ c ∈ Lib.decDigits u, dig c = true := fun u => (dec_spec (u + 1) u (by omega)).1
  have hn : ∀ u, Lib.decDigits u ≠ [] := fun u => (dec_spec (u + 1) u (by omega)).2.1
  have hm : ∀ u z w, (45 : UInt8) :: z ≠ Lib.decDigits u ++ w := by
    intro u z w e
    cases hu : Lib.decDigits u with
    | nil => exact hn u hu
    | cons c l =>
      rw [hu] at e
      simp only [List.cons_append, List.cons.injEq] at e
      have := hd u c (by rw [hu]; simp)
      rw [← e.1] at this
      exact absurd this (by decide)
  unfold Lib.itoa at h
  split at h <;> split at h
  · simp only [List.cons_append, List.cons.injEq, true_and] at h
    obtain ⟨e, h⟩ := digs_split (hd _) (hd _) hx hy h
    have := dec_inj e
    exact ⟨by omega, h⟩
  · simp only [List.cons_append] at h; exact absurd h (hm _ _ _)
  · simp only [List.cons_append] at h; exact absurd h.symm (hm _ _ _)
  · obtain ⟨e, h⟩ := digs_split (hd _) (hd _) hx hy h
    have := dec_inj e
    exact ⟨by omega, h⟩

theorem dbl_split : ∀ {s t x y : List UInt8}, stopB x = true → stopB y = true → dbl s ++ 39 :: x = dbl t ++ 39 :: y → s = t ∧ x = y
  | [], [], x, y, _, _, h => by simp only [dbl_nil, List.nil_append, List.cons.injEq, true_and] at h; exact ⟨rfl, h⟩
  | [], b :: t, x, y, hx, _, h => by
    rw [dbl_cons] at h
    by_cases e : b = 39
    · rw [if_pos e] at h
      simp only [dbl_nil, List.nil_append, List.cons_append, List.cons.injEq, true_and] at h
      rw [h] at hx; simp [stopB] at hx
    · rw [if_neg e] at h
      simp only [dbl_nil, List.nil_append, List.cons_append, List.cons.injEq] at h
      exact absurd h.1.symm e
  | a :: s, [], x, y, _, hy, h => by
    rw [dbl_cons] at h
    by_cases e : a = 39
    · rw [if_pos e] at h
      simp only [dbl_nil, List.nil_append, List.cons_append, List.cons.injEq, true_and] at h
      rw [← h] at hy; simp [stopB] at hy
    · rw [if_neg e] at h
      simp only [dbl_nil, List.nil_append, List.cons_append, List.cons.injEq] at h
      exact absurd h.1 e
  | a :: s, b :: t, x, y, hx, hy, h => by
    rw [dbl_cons, dbl_cons] at h
    by_cases e : a = 39 <;> by_cases f : b = 39
    · rw [if_pos e, if_pos f] at h
      simp only [List.nil_append, List.cons_append, List.cons.injEq, true_and] at h
      obtain ⟨rfl, h9⟩ := dbl_split hx hy h
      exact ⟨by rw [e, f], h9⟩
    · rw [if_pos e, if_neg f] at h
      simp only [List.nil_append, List.cons_append, List.cons.injEq] at h
      exact absurd h.1.symm f
    · rw [if_neg e, if_pos f] at h
      simp only [List.nil_append, List.cons_append, List.cons.injEq] at h
      exact absurd h.1 e
    · rw [if_neg e, if_neg f] at h
      simp only [List.nil_append, List.cons_append, List.cons.injEq] at h
      obtain ⟨rfl, h⟩ := h
      obtain ⟨rfl, h9⟩ := dbl_split hx hy h
      exact ⟨rfl, h9⟩

/-- the first byte of a text tells the kind -/
def kindB (b : UInt8) : Nat := if b = 110 then 0 else if b = 116 then 1 else if b = 102 then 2 else if b = 39 then 4 else 3

theorem itoa_head (n : Int) : ∃ b l, Lib.itoa n = b :: l ∧ (b = 45 ∨ dig b = true) := by
  unfold Lib.itoa
  split
  · exact ⟨_, _, rfl, .inl rfl⟩
  · obtain ⟨h1, h2, _⟩ := dec_spec (n.toNat + 1) n.toNat (by omega)
    cases hu : Lib.decDigits n.toNat with
    | nil => exact absurd hu h2
    | cons c l => exact ⟨c, l, rfl, .inr (h1 c (by rw [hu]; simp))⟩

theorem head3 (n : Int) : ∃ b l, Lib.itoa n = b :: l ∧ kindB b = 3 := by
  obtain ⟨b, l, h1, h2⟩ := itoa_head n
  refine ⟨b, l, h1, ?_⟩
  rcases h2 with rfl | h2
  · decide
  · unfold dig at h2
    rw [decide_eq_true_eq] at h2
    unfold kindB
    have e : ∀ c : UInt8, (c.toNat < 48 ∨ 57 < c.toNat) → ¬ b = c := fun c hc e => by subst e; omega
    rw [if_neg (e 110 (by decide)), if_neg (e 116 (by decide)), if_neg (e 102 (by decide)), if_neg (e 39 (by decide))]

theorem txt_head (v : Val) (hv : mayV v = true) : ∃ b l, txt v = b :: l ∧ kindB b = (if v.k = 0 then 0 else if v.k = 1 then (if v.n ≠ 0 then 1 else 2) else if v.k = 2 then 3 else 4) := by
  unfold txt
  by_cases k0 : v.k = 0
  · simp only [k0, if_true]; exact ⟨_, _, rfl, rfl⟩
  by_cases k1 : v.k = 1
  · by_cases n0 : v.n = 0
    · simp [k1, n0]; decide
    · simp [k1, n0]; decide
  by_cases k2 : v.k = 2
  · obtain ⟨b, l, h1, h2⟩ := head3 v.n
    simp [k2, h1, h2]
  · have k3 : v.k = 3 := by
      unfold mayV at hv
      simp [k0, k1, k2] at hv
      exact hv.1.1
    simp [k3]; decide

theorem txt_split {v w : Val} (hv : mayV v = true) (hw : mayV w = true) {x y : List UInt8} (hx : stopB x = true) (hy : stopB y = true) (h : txt v ++ x = txt w ++ y) : v = w ∧ x = y := by
  obtain ⟨b, l, h1, h2⟩ := txt_head v hv
  obtain ⟨c, m, h3, h4⟩ := txt_head w hw
  have hbc : b = c := by rw [h1, h3] at h; simp only [List.cons_append, List.cons.injEq] at h; exact h.1
  rw [hbc, h4] at h2
  clear h1 h3 h4
  obtain ⟨k, n, s⟩ := v
  obtain ⟨k', n', s'⟩ := w
  unfold mayV at hv hw
  simp only at hv hw h2
  unfold txt at h
  simp only at h
  by_cases a0 : k = 0
  · subst a0
    have b0 : k' = 0 := by
      by_cases e : k' = 0
      · exact e
      · simp [e] at h2; split at h2 <;> (try split at h2) <;> omega
    subst b0
    simp at hv hw h
    obtain ⟨rfl, rfl⟩ := hv; obtain ⟨rfl, rfl⟩ := hw
    exact ⟨rfl, h⟩
  by_cases a1 : k = 1
  · subst a1
    have b1 : k' = 1 ∧ (n ≠ 0 ↔ n' ≠ 0) := by
      by_cases e0 : k' = 0
      · simp [e0] at h2; split at h2 <;> omega
      · by_cases e1 : k' = 1
        · refine ⟨e1, ?_⟩
          simp [e1] at h2
          by_cases z1 : n = 0 <;> by_cases z2 : n' = 0 <;> simp [z1, z2] at h2 ⊢
        · by_cases e2 : k' = 2
          · simp [e2] at h2; split at h2 <;> omega
          · simp [e0, e1, e2] at h2; split at h2 <;> omega
    obtain ⟨rfl, hz⟩ := b1
    simp at hv hw
    obtain ⟨hv, rfl⟩ := hv; obtain ⟨hw, rfl⟩ := hw
    by_cases z1 : n = 0
    · have z2 : n' = 0 := by by_cases z : n' = 0; exact z; exact absurd z1 (hz.2 z)
      subst z1; subst z2
      simp at h
      exact ⟨rfl, h⟩
    · have z2 : n' ≠ 0 := hz.1 z1
      have y1 : n = 1 := by omega
      have y2 : n' = 1 := by omega
      subst y1; subst y2
      simp at h
      exact ⟨rfl, h⟩
  by_cases a2 : k = 2
  · subst a2
    have b2 : k' = 2 := by
      by_cases e0 : k' = 0
      · simp [e0] at h2
      · by_cases e1 : k' = 1
        · simp [e1] at h2; split at h2 <;> omega
        · by_cases e2 : k' = 2
          · exact e2
          · simp [e0, e1, e2] at h2
    subst b2
    simp at hv hw h
    subst hv; subst hw
    obtain ⟨rfl, h9⟩ := itoa_split hx hy h
    exact ⟨rfl, h9⟩
  · have a3 : k = 3 := by simp [a0, a1, a2] at hv; exact hv.1.1
    subst a3
    have b3 : k' = 3 := by
      by_cases e0 : k' = 0
      · simp [e0] at h2
      · by_cases e1 : k' = 1
        · simp [e1] at h2; split at h2 <;> omega
        · by_cases e2 : k' = 2
          · simp [e2] at h2
          · simp [e0, e1, e2] at hw; exact hw.1.1
    subst b3
    simp at hv hw h
    obtain ⟨rfl, _⟩ := hv; obtain ⟨rfl, _⟩ := hw
    obtain ⟨rfl, h9⟩ := dbl_split hx hy h
    exact ⟨rfl, h9⟩

theorem may_len {v : Val} (h : mayV v = true) : v.s.length ≤ 1000 := by
  unfold mayV at h
  by_cases k0 : v.k = 0
  · simp [k0] at h; simp [h.2]
  by_cases k1 : v.k = 1
  · simp [k1] at h; simp [h.2]
  by_cases k2 : v.k = 2
  · simp [k2] at h; simp [h]
  · simp [k0, k1, k2] at h; exact h.2

theorem valueTexts_res (v w : Val) (hv : v.ok) (hw : w.ok) : (m_L01_ValueTexts [.i v.k, .i v.n, .s (bs v.s), .i w.k, .i w.n, .s (bs w.s)]).res = some (0, [.b true]) := by
  have h1 := R01_May_res v
  have h2 := R01_May_res w
  simp only [m_L01_ValueTexts, h1, h2, ok_some', out_some, uB_0, res_test, res_stop, beq_self_eq_true, if_true]
  by_cases m1 : mayV v = true
  · by_cases m2 : mayV w = true
    · have t1 := Text_res v hv (by have := may_len m1; omega)
      have t2 := Text_res w hw (by have := may_len m2; omega)
      simp only [m1, m2, Bool.not_true, Bool.false_eq_true, if_false, t1, t2, ok_some', out_some, uS_0, bs_toList, beq_self_eq_true, if_true, eqV_c, eta]
      have : ((txt v == txt w) == decide (v = w)) = true := by
        rw [beq_iff_eq, Bool.eq_iff_iff, beq_iff_eq, decide_eq_true_eq]
        constructor
        · intro h
          exact (txt_split (x := []) (y := []) m1 m2 rfl rfl (by rw [h])).1
        · rintro rfl; rfl
      rw [this]
    · simp [m1, m2]
  · simp [m1]

end Go.Proofs.YtccgmaeflmbmlaaDoor

set_option linter.unusedVariables false
set_option linter.unusedSimpArgs false
namespace Go.Proofs.YtccgmaeflmbmlaaDoor
open Go Go.Pu

theorem compareBytes_less : ∀ (a b : List UInt8), Lib.compareBytes a b = if Op.bytesLess a b = true then -1 else if a = b then 0 else 1
  | [], [] => by simp [Lib.compareBytes, Op.bytesLess]
  | [], _ :: _ => by simp [Lib.compareBytes, Op.bytesLess]
  | _ :: _, [] => by simp [Lib.compareBytes, Op.bytesLess]
  | a :: xs, b :: ys => by
    unfold Lib.compareBytes Op.bytesLess
    by_cases h1 : a < b
    · simp [h1]
    · by_cases h2 : b < a
      · have : a ≠ b := fun e => by subst e; exact absurd h2 (UInt8.lt_irrefl a)
        simp [h1, h2, this]
      · have : a = b := UInt8.le_antisymm (UInt8.not_lt.1 h2) (UInt8.not_lt.1 h1)
        subst this
        simp [h1, compareBytes_less xs ys]

theorem R01_Compare_res (v w : Val) : (m_R01_Compare [.i v.k, .i v.n, .s (bs v.s), .i w.k, .i w.n, .s (bs w.s)]).res = some (0, [.i (cmpV v w)]) := by
  simp only [m_R01_Compare, cmpV, Cmp.thn, Cmp.cmpI, res_test, res_stop, bs_toList, compareBytes_less]
  by_cases h1 : v.k = w.k
  · by_cases h2 : v.n = w.n
    · by_cases h3 : Op.bytesLess v.s w.s = true
      · simp [h1, h2, h3]
      · by_cases h4 : v.s = w.s
        · rw [h4] at h3 ⊢
          simp [h1, h2, h3]
        · simp [h1, h2, h3, h4]
    · by_cases h3 : v.n < w.n
      · simp [h1, h2, h3]
      · have h4 : w.n < v.n := by omega
        simp [h1, h2, h3, h4]
  · by_cases h3 : v.k < w.k
    · simp [h1, h3]
    · have h4 : w.k < v.k := by omega
      simp [h1, h3, h4]

/-! rows -/

theorem row_May_res (r : List Val) (hr : okR r) : (m_row_May [.l (re r)]).res = some (0, [.b (mayR r)]) := by
  have h0 := hr.1
  have hl := loop_all r (rd := rd_row_May_91_2) (fun i => [.l (re r), .i r.length, .i (i : Nat)]) mayV 0 1 (fun i => [.i (i : Nat)]) [] (by simp [rd_row_May_91_2]) (by
    intro i h
    have := value_May_res r[i]
    by_cases hm : mayV r[i] = true <;> simp [rd_row_May_91_2, re, el_map _ _ h, h, w64_succ (i := i) (by omega), Val.e, this, hm])
  simp only [m_row_May, mayR, re, ln_map, res_test, res_stop] at *
  by_cases h40 : r.length ≤ 40
  · have h40' : (r.length : Int) ≤ 40 := by omega
    rcases hl with ⟨h1, h2⟩ | ⟨h1, i, h, _, _, h2⟩
    · simp only [Int.natCast_zero] at h2
      simp [h40, h40', h1, h2]
    · simp only [Int.natCast_zero] at h2
      have : (0 : Int) ≤ (i : Int) := by omega
      simp [h40, h40', h1, h2, this]
  · have h40' : ¬ (r.length : Int) ≤ 40 := by omega
    simp [h40, h40']

theorem R02_May_res (r : List Val) (hr : okR r) : (m_R02_May [.l (re r)]).res = some (0, [.b (r.all mayV)]) := by
  have h0 := hr.1
  have hl := loop_all' r (rd := rd_R02_May_66_2) (fun i => [.l (re r), .i (i : Nat)]) mayV 0 1 [.b false] [] (by simp [rd_R02_May_66_2, re]) (by
    intro i h
    have := R01_May_res r[i]
    by_cases hm : mayV r[i] = true <;> simp [rd_R02_May_66_2, re, el_map _ _ h, h, w64_succ (i := i) (by omega), Val.e, this, hm])
  simp only [Int.natCast_zero] at hl
  by_cases h1 : r.all mayV = true
  · simp [m_R02_May, hl, h1]
  · have h1' : r.all mayV = false := by simpa using h1
    simp [m_R02_May, hl, h1']

theorem R04_May_res (r : List Val) (hr : okR r) : (m_R04_May [.l (re r)]).res = some (0, [.b (mayR r)]) := by
  have := R02_May_res r hr
  by_cases h40 : r.length ≤ 40
  · have h40' : (r.length : Int) ≤ 40 := by omega
    simp only [re] at this ⊢
    simp [m_R04_May, mayR, this, h40, h40']
  · have h40' : ¬ (r.length : Int) ≤ 40 := by omega
    simp [m_R04_May, mayR, re, h40, h40']

end Go.Proofs.YtccgmaeflmbmlaaDoor

set_option linter.unusedVariables false
set_option linter.unusedSimpArgs false
namespace Go.Proofs.YtccgmaeflmbmlaaDoor
open Go Go.Pu

/-- how two lists compare, by the first place where they do not meet -/
theorem cmpR_at : ∀ (a b : List Val) (i : Nat) (hi : i ≤ a.length) (hj : i ≤ b.length), (∀ j (h : j < i), a[j] = b[j]) →
    cmpR a b = cmpR (a.drop i) (b.drop i)
  | a, b, 0, _, _, _ => by simp
  | [], b, i + 1, h, _, _ => by simp at h
  | _ :: _, [], i + 1, _, h, _ => by simp at h
  | x :: a, y :: b, i + 1, h1, h2, h => by
    have h0 : x = y := h 0 (by omega)
    subst h0
    have := cmpR_at a b i (by simpa using h1) (by simpa using h2) fun j hj => by simpa using h (j + 1) (by omega)
    simp only [cmpR, Cmp.lstC, cV.self, Cmp.thn] at this ⊢
    simpa using this

theorem cmpR_stop {a b : List Val} {i : Nat} (hi : i < a.length) (hj : i < b.length) (h : ∀ j (h : j < i), a[j] = b[j]) (hne : cmpV a[i] b[i] ≠ 0) : cmpR a b = cmpV a[i] b[i] := by
  rw [cmpR_at a b i (by omega) (by omega) h, List.drop_eq_getElem_cons hi, List.drop_eq_getElem_cons hj]
  simp only [cmpR, Cmp.lstC, Cmp.thn]
  rw [if_pos (by simpa using hne)]

theorem cmpR_end {a b : List Val} (h : ∀ j (h1 : j < a.length) (h2 : j < b.length), a[j] = b[j]) : cmpR a b = if a.length < b.length then -1 else if b.length < a.length then 1 else 0 := by
  by_cases hl : a.length ≤ b.length
  · rw [cmpR_at a b a.length (Nat.le_refl _) hl fun j hj => h j hj (by omega), List.drop_length]
    by_cases he : a.length < b.length
    · rw [if_pos he, List.drop_eq_getElem_cons he]; rfl
    · have : b.drop a.length = [] := List.drop_eq_nil_of_le (by omega)
      rw [if_neg he, if_neg (by omega), this]; rfl
  · rw [cmpR_at a b b.length (by omega) (Nat.le_refl _) fun j hj => h j (by omega) hj, List.drop_length, if_neg (by omega), if_pos (by omega), List.drop_eq_getElem_cons (by omega)]; rfl

theorem R02_Compare_res (a b : List Val) (ha : a.length ≤ 4398046511104) : (m_R02_Compare [.l (re a), .l (re b)]).res = some (0, [.i (cmpR a b)]) := by
  have hl := loop_ix (min a.length b.length) (rd := rd_R02_Compare_33_2) (fun i => [.l (re a), .l (re b), .i (i : Nat)]) (fun i => cmpV (a.getD i default) (b.getD i default) == 0) 0 1
    (fun i => [.i (cmpV (a.getD i default) (b.getD i default))]) [.l (re a), .l (re b)] (by
      by_cases h : a.length ≤ b.length
      · simp [rd_R02_Compare_33_2, Nat.min_eq_left h]
      · have : ¬ ((b.length : Int) < a.length ∧ False) := by simp
        simp [rd_R02_Compare_33_2, Nat.min_eq_right (Nat.le_of_not_le h)]) (by
    intro i h _
    have h1 : i < a.length := by omega
    have h2 : i < b.length := by omega
    have := R01_Compare_res a[i] b[i]
    by_cases hm : cmpV a[i] b[i] = 0 <;> simp [rd_R02_Compare_33_2, el_re _ h1, el_re _ h2, h1, h2, w64_succ (i := i) (by omega), Val.e, this, hm, List.getD])
  simp only [Int.natCast_zero] at hl
  rcases hl with ⟨h1, h2⟩ | ⟨i, h1, h2, h3, h4⟩
  · have he : ∀ j (h1 : j < a.length) (h2 : j < b.length), a[j] = b[j] := fun j j1 j2 => by
      have := h1 j (by omega)
      simp only [List.getD, List.getElem?_eq_getElem j1, List.getElem?_eq_getElem j2, Option.getD_some, beq_iff_eq] at this
      exact (cV.zero _ _).1 this
    rw [cmpR_end he]
    by_cases c1 : a.length < b.length
    · simp [m_R02_Compare, h2, c1]
    · by_cases c2 : b.length < a.length <;> simp [m_R02_Compare, h2, c1, c2]
  · have i1 : i < a.length := by omega
    have i2 : i < b.length := by omega
    have he : ∀ j (h : j < i), a[j] = b[j] := fun j hj => by
      have := h3 j hj
      have j1 : j < a.length := by omega
      have j2 : j < b.length := by omega
      simp only [List.getD, List.getElem?_eq_getElem j1, List.getElem?_eq_getElem j2, Option.getD_some, beq_iff_eq] at this
      exact (cV.zero _ _).1 this
    simp only [List.getD, List.getElem?_eq_getElem i1, List.getElem?_eq_getElem i2, Option.getD_some, beq_eq_false_iff_ne, ne_eq] at h2 h4
    rw [cmpR_stop i1 i2 he h2]
    simp [m_R02_Compare, h4]

theorem key_Compare_res (a b : List Val) (ha : a.length ≤ 4398046511104) : (m_key_Compare [.l (re a), .l (re b)]).res = some (0, [.i (cmpR a b)]) := by
  have hl := loop_ix a.length (rd := rd_key_Compare_94_2) (fun i => [.l (re a), .l (re b), .l (re a), .i a.length, .i (i : Nat)]) (fun i => decide (i < b.length) && cmpV (a.getD i default) (b.getD i default) == 0) 0 1
    (fun i => [.i (if i < b.length then cmpV (a.getD i default) (b.getD i default) else 1)]) [.l (re a), .l (re b)] (by
      simp [rd_key_Compare_94_2]) (by
    intro i h1 _
    by_cases h2 : i < b.length
    · have := value_Compare_res a[i] b[i]
      have h3 : ¬ (b.length : Int) ≤ (i : Int) := by omega
      by_cases hm : cmpV a[i] b[i] = 0 <;> simp [rd_key_Compare_94_2, el_re _ h1, el_re _ h2, h1, h2, h3, w64_succ (i := i) (by omega), Val.e, this, hm, List.getD]
    · have h3 : (b.length : Int) ≤ (i : Int) := by omega
      simp [rd_key_Compare_94_2, h1, h2, h3])
  simp only [Int.natCast_zero] at hl
  rcases hl with ⟨h1, h2⟩ | ⟨i, i1, h2, h3, h4⟩
  · have hle : a.length ≤ b.length := by
      rcases Nat.lt_or_ge b.length a.length with h | h
      · have := h1 b.length h; simp at this
      · exact h
    have he : ∀ j (h1 : j < a.length) (h2 : j < b.length), a[j] = b[j] := fun j j1 j2 => by
      have := h1 j (by omega)
      simp only [List.getD, List.getElem?_eq_getElem j1, List.getElem?_eq_getElem j2, Option.getD_some, Bool.and_eq_true, beq_iff_eq] at this
      exact (cV.zero _ _).1 this.2
    rw [cmpR_end he]
    by_cases c1 : a.length < b.length
    · simp [m_key_Compare, h2, c1]
    · have c2 : ¬ b.length < a.length := by omega
      simp [m_key_Compare, h2, c1, c2]
  · have he : ∀ j (h : j < i) (j2 : j < b.length), a[j] = b[j] := fun j hj j2 => by
      have := h3 j hj
      have j1 : j < a.length := by omega
      simp only [List.getD, List.getElem?_eq_getElem j1, List.getElem?_eq_getElem j2, Option.getD_some, Bool.and_eq_true, beq_iff_eq] at this
      exact (cV.zero _ _).1 this.2
    have hm : (m_key_Compare [.l (re a), .l (re b)]).res = some (0, [.i (if i < b.length then cmpV (a.getD i default) (b.getD i default) else 1)]) := by
      simp [m_key_Compare, h4]
    rw [hm]
    by_cases i2 : i < b.length
    · rw [if_pos i2]
      simp only [List.getD, List.getElem?_eq_getElem i1, List.getElem?_eq_getElem i2, Option.getD_some, i2, decide_true, Bool.true_and, beq_eq_false_iff_ne, ne_eq] at h2 ⊢
      rw [cmpR_stop i1 i2 (fun j hj => he j hj (by omega)) h2]
    · rw [if_neg i2]
      have hb : b.length = i := by
        rcases Nat.lt_or_ge b.length i with h | h
        · have := h3 b.length h; simp at this
        · omega
      have : cmpR a b = 1 := by
        have hbn : b.drop i = [] := List.drop_eq_nil_of_le (by omega)
        rw [cmpR_at a b i (by omega) (by omega) fun j hj => he j hj (by omega), List.drop_eq_getElem_cons i1, hbn]; rfl
      rw [this]

theorem row_Compare_res (a b : List Val) (ha : a.length ≤ 4398046511104) : (m_row_Compare [.l (re a), .l (re b)]).res = some (0, [.i (cmpR a b)]) := by
  simp [m_row_Compare, key_Compare_res a b ha]

end Go.Proofs.YtccgmaeflmbmlaaDoor

set_option linter.unusedVariables false
set_option linter.unusedSimpArgs false
namespace Go.Proofs.YtccgmaeflmbmlaaDoor
open Go Go.Pu

theorem wrap_u64 {n : Int} (h1 : 0 ≤ n) (h2 : n < 18446744073709551616) : IntKind.u64.wrap n = n := by
  rw [IntKind.wrap_u64]; omega

theorem mid_eq {i j : Nat} (hi : i < 4611686018427387904) (hj : j < 4611686018427387904) :
    w64 (Int.fdiv (IntKind.wrap IntKind.u64 (w64 ((i : Int) + (j : Int)))) 2) = (((i + j) / 2 : Nat) : Int) := by
  have e1 : w64 ((i : Int) + (j : Int)) = (i : Int) + (j : Int) := w64_eq (by omega) (by omega)
  rw [e1, wrap_u64 (by omega) (by omega)]
  have : Int.fdiv ((i : Int) + (j : Int)) 2 = (((i + j) / 2 : Nat) : Int) := by
    rw [Int.fdiv_eq_ediv_of_nonneg _ (by decide)]; omega
  rw [this, w64_eq (by omega) (by omega)]

theorem okR_bytes {r : List Val} (h : okR r) : (0 + (re r).length) * 32 ≤ 140737488355328 := by
  have := h.1
  simp only [re, List.length_map]; omega

theorem val_ext {v w : Val} : (v.k = w.k ∧ v.n = w.n ∧ v.s = w.s) ↔ v = w := by
  obtain ⟨a, b, c⟩ := v
  obtain ⟨a', b', c'⟩ := w
  simp

def shortR (r : List Val) : Bool := r.all (fun v => decide (v.s.length ≤ 1000)) && decide (r.length ≤ 40)

theorem cast_le (n : Nat) (k : Nat) : ((n : Int) ≤ (k : Int)) ↔ n ≤ k := by omega

theorem R02_Short_res {r : List Val} (hr : okR r) : (m_R02_Short [.l (re r)]).res = some (0, [.b (shortR r)]) := by
  have h0 := hr.1
  have hl := loop_all' r (rd := rd_R02_Short_60_2) (fun i => [.l (re r), .i (i : Nat)]) (fun v => decide (v.s.length ≤ 1000)) 0 1 [.b false] [.l (re r)] (by simp [rd_R02_Short_60_2]) (by
    intro i h
    have h5 : ((1000 : Int) < (r[i].s.length : Int)) ↔ ¬ r[i].s.length ≤ 1000 := by omega
    by_cases hm : r[i].s.length ≤ 1000 <;> simp [rd_R02_Short_60_2, el_re _ h, h, w64_succ (i := i) (by omega), Val.e, h5, hm])
  simp only [Int.natCast_zero] at hl
  have h40 : ((r.length : Int) ≤ 40) ↔ r.length ≤ 40 := by omega
  by_cases h1 : r.all (fun v => decide (v.s.length ≤ 1000)) = true
  · rw [if_pos h1] at hl
    simp [m_R02_Short, hl, shortR, h1, h40]
  · rw [if_neg h1] at hl
    have h1' : r.all (fun v => decide (v.s.length ≤ 1000)) = false := by simpa using h1
    simp [m_R02_Short, hl, shortR, h1']

end Go.Proofs.YtccgmaeflmbmlaaDoor

set_option linter.unusedVariables false
set_option linter.unusedSimpArgs false
namespace Go.Proofs.YtccgmaeflmbmlaaDoor
open Go Go.Pu

theorem re_app (a b : List Val) : re (a ++ b) = re a ++ re b := List.map_append
theorem re_len (a : List Val) : (re a).length = a.length := List.length_map _
theorem take_one {α : Type} (l : List α) {i : Nat} (h : i < l.length) : l.take (i + 1) = l.take i ++ [l[i]] := by
  rw [List.take_add_one, List.getElem?_eq_getElem h]; rfl

/-! rows, joined -/

def reR (r : List Val) : List PV := [.lst 25 (re r)]
def lens (l : List (List Val)) : Nat := (l.map List.length).sum

theorem lens_take (l : List (List Val)) {i : Nat} (h : i < l.length) : lens (l.take (i + 1)) = lens (l.take i) + l[i].length := by
  unfold lens
  rw [take_one l h, List.map_append, List.sum_append]; rfl
theorem lens_le (l : List (List Val)) (i : Nat) : lens (l.take i) ≤ lens l := by
  have : lens l = lens (l.take i) + lens (l.drop i) := by
    conv => lhs; rw [← List.take_append_drop i l]
    unfold lens
    rw [List.map_append, List.sum_append]
  omega
theorem flat_len (l : List (List Val)) : l.flatten.length = lens l := by simp [lens, List.length_flatten]

theorem Concat_res (l : List (List Val)) (hl : l.length ≤ 4398046511104) (hs : lens l ≤ 1099511627776) : (m_slices_Concat_Row [.l (l.map reR)]).res = some (0, [.l (re l.flatten)]) := by
  have h1 := loop_acc (rd := rd_slices_Concat_Row_65_3) l.length (fun i => [.l (l.map reR), .i (lens (l.take i) : Nat), .l (l.map reR), .i (l.length : Nat), .i (i : Nat)]) (some (0, [.l (l.map reR), .i (lens l : Nat)]))
    (lres_stop (by simp [rd_slices_Concat_Row_65_3])) (by
    intro i h
    have e1 := lens_take l h
    have e2 := lens_le l (i + 1)
    have e3 : w64 ((lens (l.take i) : Int) + (l[i].length : Int)) = ((lens (l.take (i + 1)) : Nat) : Int) := by rw [w64_eq (by omega) (by omega)]; omega
    have e4 : ¬ ((lens (l.take (i + 1)) : Nat) : Int) < 0 := by omega
    simp only [rd_slices_Concat_Row_65_3, rt_test, rt_next, el_map _ _ h, reR, cL_0, ln_re, ln_map, inR_cast, Int.ofNat_lt, h, decide_true, if_true, e3, e4, decide_false, Bool.false_eq_true, if_false, w64_succ (i := i) (by omega)])
  have h2 := loop_acc (rd := rd_slices_Concat_Row_65_11) l.length (fun i => [.l (l.map reR), .i (l.length : Nat), .i (i : Nat), .l (re (l.take i).flatten)]) (some (0, [.l (re l.flatten)]))
    (lres_stop (by simp [rd_slices_Concat_Row_65_11])) (by
    intro i h
    have e1 := lens_take l h
    have e2 := lens_le l (i + 1)
    have e3 : ((re (l.take i).flatten).length + (re l[i]).length) * 32 ≤ 140737488355328 := by rw [re_len, re_len, flat_len]; omega
    have e4 : re (l.take (i + 1)).flatten = re (l.take i).flatten ++ re l[i] := by rw [take_one l h, List.flatten_append, re_app]; simp
    simp only [rd_slices_Concat_Row_65_11, rt_test, rt_next, el_map _ _ h, reR, cL_0, ln_map, inR_cast, Int.ofNat_lt, h, decide_true, if_true, e3, e4, w64_succ (i := i) (by omega)])
  simp only [List.take_zero, Int.natCast_zero] at h1 h2
  rw [show (lens [] : Int) = 0 from rfl] at h1
  rw [show re ([] : List (List Val)).flatten = [] from rfl] at h2
  have e5 : decide ((0 : Int) ≤ (lens l : Int) ∧ (lens l : Int) * 32 ≤ 140737488355328) = true := by rw [decide_eq_true_eq]; omega
  simp only [m_slices_Concat_Row, ln_map, h1, ok_some', out_some, res_test, res_stop, uI_s, uI_0, uL_0, e5, h2, beq_self_eq_true, if_true]

theorem Join_res (a b : List Val) (ha : a.length ≤ 1000000) (hb : b.length ≤ 1000000) : (m_row_Join [.l [[.lst 25 (re a)], [.lst 25 (re b)]]]).res = some (0, [.l (re (a ++ b))]) := by
  have h := Concat_res [a, b] (by simp) (by simp [lens]; omega)
  rw [show [a, b].map reR = [[PV.lst 25 (re a)], [PV.lst 25 (re b)]] from rfl] at h
  simp only [m_row_Join, h, ok_some', out_some, res_test, res_stop, uL_0, beq_self_eq_true, if_true]
  simp

/-! texts -/

/-- what stands behind the first value -/
def tlT (r : List Val) : List UInt8 := r.flatMap fun v => 44 :: 32 :: txt v
def bodyT : List Val → List UInt8
  | [] => []
  | v :: r => txt v ++ tlT r
def txtR (r : List Val) : List UInt8 := 40 :: (bodyT r ++ [41])

theorem join_body (r : List Val) : Lib.join (r.map txt) [44, 32] = bodyT r := by
  cases r with
  | nil => rfl
  | cons v r =>
    rw [List.map_cons, Lib.join_cons]
    show _ = txt v ++ tlT r
    unfold tlT Lib.joinTail
    rw [List.map_map, List.flatMap_def]
    rfl

theorem nDig_le (u : Nat) (h : u < 18446744073709551616) : Lib.nDigits u ≤ 20 := by
  rcases Nat.lt_or_ge 20 (Lib.nDigits u) with h1 | h1
  · exfalso
    have key : ∀ k u, u < 10 ^ (k + 1) → Lib.nDigits u ≤ k + 1 := by
      intro k
      induction k with
      | zero => intro u hu; rw [Lib.nDigits_small (by simpa using hu)]; omega
      | succ k ih =>
        intro u hu
        by_cases h9 : u < 10
        · rw [Lib.nDigits_small h9]; omega
        · rw [Lib.nDigits_big h9]
          have := ih (u / 10) (by rw [Nat.pow_succ] at hu; omega)
          omega
    have := key 19 u (by have : (10 : Nat) ^ (19 + 1) = 100000000000000000000 := by decide
                         omega)
    omega
  · exact h1

theorem itoa_len {n : Int} (h : i64 n) : (Lib.itoa n).length ≤ 21 := by
  unfold i64 at h
  unfold Lib.itoa
  split
  · rw [List.length_cons, Lib.decDigits_length]
    have := nDig_le n.natAbs (by omega)
    omega
  · rw [Lib.decDigits_length]
    have := nDig_le n.toNat (by omega)
    omega

theorem txt_len {v : Val} (hv : v.ok) : (txt v).length ≤ 2 * v.s.length + 30 := by
  have h1 := dbl_len v.s
  have h2 := itoa_len hv.2.1
  unfold txt
  split
  · simp
  · split
    · split <;> simp
    · split
      · omega
      · split
        · simp; omega
        · simp

theorem tlT_len {r : List Val} {m : Nat} (h : ∀ v ∈ r, (txt v).length ≤ m) : (tlT r).length ≤ r.length * (m + 2) := by
  induction r with
  | nil => simp [tlT]
  | cons v r ih =>
    have h1 := ih fun w hw => h w (List.mem_cons_of_mem _ hw)
    have h2 := h v (List.mem_cons_self ..)
    have e : tlT (v :: r) = (44 :: 32 :: txt v) ++ tlT r := rfl
    rw [e, List.length_append, List.length_cons, List.length_cons, List.length_cons, Nat.add_mul, Nat.one_mul]
    omega
theorem body_len {r : List Val} {m : Nat} (h : ∀ v ∈ r, (txt v).length ≤ m) : (bodyT r).length ≤ r.length * (m + 2) := by
  cases r with
  | nil => simp [bodyT]
  | cons v r =>
    have h1 := tlT_len (r := r) fun w hw => h w (List.mem_cons_of_mem _ hw)
    have h2 := h v (List.mem_cons_self ..)
    unfold bodyT
    rw [List.length_append, List.length_cons, Nat.add_mul, Nat.one_mul]
    omega

def okT (r : List Val) : Prop := (∀ v ∈ r, v.ok) ∧ r.length ≤ 200 ∧ ∀ v ∈ r, v.s.length ≤ 100000

theorem okT_len {r : List Val} (h : okT r) : (bodyT r).length ≤ 40006400 := by
  have := body_len (r := r) (m := 200030) fun v hv => by
    have h1 := txt_len (h.1 v hv)
    have h2 := h.2.2 v hv
    omega
  have h3 := Nat.mul_le_mul_right 200032 h.2.1
  omega

theorem rowText_res (r : List Val) (hr : okT r) : (m_row_Text [.l (re r)]).res = some (0, [.s (bs (txtR r))]) := by
  have hl := hr.2.1
  let f := fun v : Val => [pS (bs (txt v))]
  have h1 := loop_acc (rd := rd_row_Text_42_3) r.length (fun i => [.l (re r), .i (r.length : Nat), .i (i : Nat), .l ((r.take i).map f)]) (some (0, [.l (r.map f)]))
    (lres_stop (by simp [rd_row_Text_42_3])) (by
    intro i h
    have hm := List.getElem_mem h
    have ht := Text_res r[i] (hr.1 _ hm) (hr.2.2 _ hm)
    have e1 : (((r.take i).map f).length + 1) * 16 ≤ 140737488355328 := by simp; omega
    have e2 : (r.take (i + 1)).map f = (r.take i).map f ++ [[pS (bs (txt r[i]))]] := by rw [take_one r h, List.map_append]; rfl
    simp only [rd_row_Text_42_3, rt_test, rt_next, re, el_map _ _ h, Val.e, cI_p, cI_s, cS_s, cS_p, ln_map, inR_cast, Int.ofNat_lt, h, decide_true, if_true, ht, ok_some', out_some, uS_0, beq_self_eq_true, e1, e2, w64_succ (i := i) (by omega)])
  simp only [List.take_zero, Int.natCast_zero, List.map_nil] at h1
  have e0 : ({ data := #[(44 : UInt8), (32 : UInt8)] } : ByteArray) = bs [44, 32] := rfl
  have em : ((r.map f).map fun e => (cS e 0).data.toList) = r.map txt := by rw [List.map_map]; rfl
  have ej : joinB (r.map f) (bs [44, 32]) = bs (bodyT r) := by
    unfold joinB
    rw [em, show (bs [44, 32]).data.toList = [44, 32] from rfl, join_body]
    rfl
  have hb := okT_len hr
  have eo : joinOk (r.map f) (bs [44, 32]) = true := by
    unfold joinOk
    rw [decide_eq_true_eq, em, show (bs [44, 32]).data.toList = [44, 32] from rfl, join_body, List.length_map]
    exact ⟨by omega, by omega⟩
  have e3 : ({ data := #[(40 : UInt8)] } : ByteArray) = bs [40] := rfl
  have e4 : ({ data := #[(41 : UInt8)] } : ByteArray) = bs [41] := rfl
  have g1 : decide (1 + (bodyT r).length ≤ 9223372036854775807) = true := by rw [decide_eq_true_eq]; omega
  have g2 : decide (([40] ++ bodyT r).length + 1 ≤ 9223372036854775807) = true := by rw [decide_eq_true_eq]; simp; omega
  simp only [m_row_Text, ln_re, h1, ok_some', out_some, res_test, res_stop, uL_0, e0, e3, e4, ej, eo, beq_self_eq_true, if_true, bs_size, bs_app, g1, g2, txtR]
  simp

/-! unlike rows have unlike texts -/

theorem txt_head2 (v : Val) (hv : mayV v = true) : ∃ b l, txt v = b :: l ∧ b ≠ 41 := by
  unfold txt
  by_cases k0 : v.k = 0
  · simp only [k0, if_true]; exact ⟨_, _, rfl, by decide⟩
  by_cases k1 : v.k = 1
  · by_cases n0 : v.n = 0
    · simp [k1, n0]
    · simp [k1, n0]
  by_cases k2 : v.k = 2
  · obtain ⟨b, l, h1, h2⟩ := itoa_head v.n
    simp only [k2, h1]
    refine ⟨b, l, by simp, ?_⟩
    rcases h2 with rfl | h2
    · decide
    · rintro rfl
      exact absurd h2 (by decide)
  · have k3 : v.k = 3 := by
      unfold mayV at hv
      simp [k0, k1, k2] at hv
      exact hv.1.1
    simp [k3]

theorem tl_stop (r : List Val) (x : List UInt8) : stopB (tlT r ++ 41 :: x) = true := by
  cases r with
  | nil => rfl
  | cons v r => rfl

theorem tl_split : ∀ {a b : List Val} {x y : List UInt8}, a.all mayV = true → b.all mayV = true → tlT a ++ 41 :: x = tlT b ++ 41 :: y → a = b ∧ x = y
  | [], [], x, y, _, _, h => by simp only [tlT, List.flatMap_nil, List.nil_append, List.cons.injEq, true_and] at h; exact ⟨rfl, h⟩
  | [], w :: b, x, y, _, _, h => by simp [tlT] at h
  | v :: a, [], x, y, _, _, h => by simp [tlT] at h
  | v :: a, w :: b, x, y, ha, hb, h => by
    simp only [List.all_cons, Bool.and_eq_true] at ha hb
    have e1 : ∀ (u : Val) (l : List Val), tlT (u :: l) = 44 :: 32 :: (txt u ++ tlT l) := fun u l => rfl
    rw [e1, e1] at h
    simp only [List.cons_append, List.cons.injEq, true_and, List.append_assoc] at h
    obtain ⟨rfl, h9⟩ := txt_split ha.1 hb.1 (tl_stop _ _) (tl_stop _ _) h
    obtain ⟨rfl, h8⟩ := tl_split ha.2 hb.2 h9
    exact ⟨rfl, h8⟩

theorem txtR_split {a b : List Val} {x y : List UInt8} (ha : a.all mayV = true) (hb : b.all mayV = true) (h : txtR a ++ x = txtR b ++ y) : a = b ∧ x = y := by
  unfold txtR at h
  simp only [List.cons_append, List.cons.injEq, true_and, List.append_assoc, List.nil_append] at h
  cases a with
  | nil =>
    cases b with
    | nil => simp only [bodyT, List.nil_append, List.cons.injEq, true_and] at h; exact ⟨rfl, h⟩
    | cons w b =>
      simp only [List.all_cons, Bool.and_eq_true] at hb
      obtain ⟨c, l, e1, e2⟩ := txt_head2 w hb.1
      simp only [bodyT, e1, List.nil_append, List.cons_append, List.cons.injEq] at h
      exact absurd h.1.symm e2
  | cons v a =>
    simp only [List.all_cons, Bool.and_eq_true] at ha
    cases b with
    | nil =>
      obtain ⟨c, l, e1, e2⟩ := txt_head2 v ha.1
      simp only [bodyT, e1, List.nil_append, List.cons_append, List.cons.injEq] at h
      exact absurd h.1 e2
    | cons w b =>
      simp only [List.all_cons, Bool.and_eq_true] at hb
      simp only [bodyT, List.append_assoc] at h
      obtain ⟨rfl, h9⟩ := txt_split ha.1 hb.1 (tl_stop _ _) (tl_stop _ _) h
      obtain ⟨rfl, h8⟩ := tl_split ha.2 hb.2 h9
      exact ⟨rfl, h8⟩

theorem R02_Same_res (a b : List Val) (ha : a.length ≤ 4398046511104) : (m_R02_Same [.l (re a), .l (re b)]).res = some (0, [.b (decide (a = b))]) := by
  have h := R02_Compare_res a b ha
  simp only [m_R02_Same, h, ok_some', out_some, res_test, res_stop, uI_0, beq_self_eq_true, if_true]
  have : (cmpR a b == 0) = decide (a = b) := by
    rw [Bool.eq_iff_iff, beq_iff_eq, decide_eq_true_eq]; exact cR.zero a b
  rw [this]

theorem may_okT {r : List Val} (hr : okR r) (h : mayR r = true) : okT r := by
  unfold mayR at h
  rw [Bool.and_eq_true, decide_eq_true_eq, List.all_eq_true] at h
  exact ⟨hr.2, by omega, fun v hv => by have := may_len (h.2 v hv); omega⟩

theorem rowTexts_res (a b : List Val) (ha : okR a) (hb : okR b) : (m_L04_RowTexts [.l (re a), .l (re b)]).res = some (0, [.b true]) := by
  have h1 := R04_May_res a ha
  have h2 := R04_May_res b hb
  by_cases m1 : mayR a = true
  · by_cases m2 : mayR b = true
    · have t1 := rowText_res a (may_okT ha m1)
      have t2 := rowText_res b (may_okT hb m2)
      have t3 := R02_Same_res a b ha.1
      simp only [m_L04_RowTexts, h1, h2, m1, m2, t1, t2, t3, ok_some', out_some, res_test, res_stop, uB_0, uS_0, bs_toList, Bool.not_true, Bool.false_eq_true, if_false, beq_self_eq_true, if_true]
      have : ((txtR a == txtR b) == decide (a = b)) = true := by
        unfold mayR at m1 m2
        rw [Bool.and_eq_true] at m1 m2
        rw [beq_iff_eq, Bool.eq_iff_iff, beq_iff_eq, decide_eq_true_eq]
        constructor
        · intro h
          exact (txtR_split (x := []) (y := []) m1.2 m2.2 (by rw [h])).1
        · rintro rfl; rfl
      rw [this]
    · simp only [m_L04_RowTexts, h1, h2, m1, m2, ok_some', out_some, res_test, res_stop, uB_0, Bool.not_true, Bool.false_eq_true, if_false, beq_self_eq_true, if_true, Bool.not_false]
  · simp only [m_L04_RowTexts, h1, m1, ok_some', out_some, res_test, res_stop, uB_0, beq_self_eq_true, if_true, Bool.not_false]

end Go.Proofs.YtccgmaeflmbmlaaDoor

set_option linter.unusedVariables false
set_option linter.unusedSimpArgs false
namespace Go.Proofs.YtccgmaeflmbmlaaDoor
open Go Go.Pu

def longR (r : List Val) : Bool := !(r.all fun v => decide (v.s.length ≤ 2000)) || decide (r.length > 60)

theorem long_res (r : List Val) (hr : r.length ≤ 4398046511104) : (m_L04_long [.l (re r)]).res = some (0, [.b (longR r)]) := by
  have h := loop_all' r (rd := rd_L04_long_40_2) (fun i => [.l (re r), .i (i : Nat)]) (fun v => decide (v.s.length ≤ 2000)) 0 1 [.b true] [.l (re r)]
    (by simp [rd_L04_long_40_2]) (by
    intro i h
    simp only [rd_L04_long_40_2, rt_test, rt_stop, rt_next, re, el_map _ _ h, Val.e, cI_p, cI_s, cS_s, cS_p, ln_map, inR_cast, Int.ofNat_lt, h, decide_true, if_true, bs_size, w64_succ (i := i) (by omega)]
    by_cases e : r[i].s.length ≤ 2000
    · have : ¬ (r[i].s.length : Int) > 2000 := by omega
      simp [e, this]
    · have : (r[i].s.length : Int) > 2000 := by omega
      simp [e, this])
  simp only [Int.natCast_zero] at h
  unfold longR
  by_cases e : (r.all fun v => decide (v.s.length ≤ 2000)) = true
  · rw [if_pos e] at h
    have e2 : decide ((r.length : Int) > 60) = decide (r.length > 60) := by rw [decide_eq_decide]; omega
    simp only [m_L04_long, h, ok_some', out_some, res_test, res_stop, uL_0, ln_re, e, e2, show ((0 : Nat) == 1) = false from rfl, Bool.false_eq_true, if_false, beq_self_eq_true, if_true, Bool.not_true, Bool.false_or]
  · rw [if_neg e] at h
    simp only [m_L04_long, h, ok_some', out_some, res_test, res_stop, uB_0, beq_self_eq_true, if_true]
    simp [e]

theorem long_okT {r : List Val} (hr : okR r) (h : longR r = false) : okT r ∧ r.length ≤ 60 := by
  unfold longR at h
  simp only [Bool.or_eq_false_iff, Bool.not_eq_false', List.all_eq_true, decide_eq_true_eq, decide_eq_false_iff_not] at h
  exact ⟨⟨hr.2, by omega, fun v hv => by have := h.1 v hv; omega⟩, by omega⟩

theorem bs_ext (l : List UInt8) (i j : Nat) : (bs l).extract i j = bs ((l.take j).drop i) := by
  apply ByteArray.ext
  rw [ByteArray.data_extract]
  apply Array.ext'
  simp [bs, List.drop_take]

theorem tlT_app (a b : List Val) : tlT (a ++ b) = tlT a ++ tlT b := by simp [tlT]
theorem body_app {a b : List Val} (ha : a ≠ []) (hb : b ≠ []) : bodyT (a ++ b) = bodyT a ++ (44 :: 32 :: bodyT b) := by
  cases a with
  | nil => exact absurd rfl ha
  | cons v a => cases b with
    | nil => exact absurd rfl hb
    | cons w b =>
      show txt v ++ tlT (a ++ w :: b) = _
      rw [tlT_app]
      simp [bodyT, tlT]

theorem rowParts_res (a b : List Val) (ha : okR a) (hb : okR b) : (m_L04_RowParts [.l (re a), .l (re b)]).res = some (0, [.b true]) := by
  have h1 := long_res a ha.1
  have h2 := long_res b hb.1
  cases l1 : longR a with
  | true => simp only [m_L04_RowParts, h1, l1, ok_some', out_some, res_test, res_stop, uB_0, beq_self_eq_true, if_true]
  | false =>
    cases l2 : longR b with
    | true => simp only [m_L04_RowParts, h1, h2, l1, l2, ok_some', out_some, res_test, res_stop, uB_0, beq_self_eq_true, if_true, Bool.false_eq_true, if_false]
    | false =>
      obtain ⟨o1, n1⟩ := long_okT ha l1
      obtain ⟨o2, n2⟩ := long_okT hb l2
      have o3 : okT (a ++ b) := ⟨fun v hv => (List.mem_append.1 hv).elim (o1.1 v) (o2.1 v), by simp; omega, fun v hv => (List.mem_append.1 hv).elim (o1.2.2 v) (o2.2.2 v)⟩
      have t1 := rowText_res a o1
      have t2 := rowText_res b o2
      have t3 := rowText_res (a ++ b) o3
      have t4 := Join_res a b (by omega) (by omega)
      have b1 := okT_len o1
      have b2 := okT_len o2
      have s1 : (txtR a).length = (bodyT a).length + 2 := by simp [txtR]
      have s2 : (txtR b).length = (bodyT b).length + 2 := by simp [txtR]
      have w1 : w64 ((((bodyT a).length + 2 : Nat) : Int) - 1) = (((bodyT a).length + 1 : Nat) : Int) := by rw [w64_eq (by omega) (by omega)]; omega
      have x1 : (txtR a).take ((bodyT a).length + 1) = 40 :: bodyT a := by simp [txtR]
      have x2 : (txtR b).drop 1 = bodyT b ++ [41] := by simp [txtR]
      have e0 : ({ data := #[(44 : UInt8), (32 : UInt8)] } : ByteArray) = bs [44, 32] := rfl
      simp only [m_L04_RowParts, h1, h2, l1, l2, t1, t2, t3, t4, ok_some', out_some, res_test, res_stop, uB_0, uL_0, uS_0, beq_self_eq_true, if_true, Bool.false_eq_true, if_false, ln_re, bs_toList, bs_size, s1, s2, w1, e0, bs_ext, Int.toNat_natCast, x1, List.drop_zero, bs_app]
      cases a with
      | nil => cases b <;> simp
      | cons v a =>
        cases b with
        | nil => simp
        | cons w b =>
          have hne : txtR (v :: a ++ w :: b) = (40 :: bodyT (v :: a)) ++ [44, 32] ++ (bodyT (w :: b) ++ [41]) := by
            unfold txtR
            rw [body_app (by simp) (by simp)]
            simp
          have z1 : ((((v :: a).length : Nat) : Int) == 0) = false := by rw [beq_eq_false_iff_ne]; simp; omega
          have z2 : ((((w :: b).length : Nat) : Int) == 0) = false := by rw [beq_eq_false_iff_ne]; simp; omega
          have x3 : ((txtR (w :: b)).take ((bodyT (w :: b)).length + 2)).drop 1 = bodyT (w :: b) ++ [41] := by
            rw [List.take_of_length_le (by omega), x2]
          simp only [z1, z2, Bool.false_eq_true, if_false, x3, hne, beq_self_eq_true]
          have c1 : ((((bodyT (v :: a)).length + 2 : Nat) : Int) > 1) := by omega
          have c2 : ((((bodyT (w :: b)).length + 2 : Nat) : Int) > 1) := by omega
          have c3 : ((0 : Int) ≤ 0 ∧ (0 : Int) ≤ (((bodyT (v :: a)).length + 1 : Nat) : Int) ∧ (((bodyT (v :: a)).length + 1 : Nat) : Int) ≤ (((bodyT (v :: a)).length + 2 : Nat) : Int)) := by omega
          have c5 : ((0 : Int) ≤ 1 ∧ (1 : Int) ≤ (((bodyT (w :: b)).length + 2 : Nat) : Int) ∧ (((bodyT (w :: b)).length + 2 : Nat) : Int) ≤ (((bodyT (w :: b)).length + 2 : Nat) : Int)) := by omega
          rw [if_pos (decide_eq_true c1), if_pos (decide_eq_true c2), if_pos (decide_eq_true c3), if_pos (by rw [decide_eq_true_eq]; simp; omega), if_pos (decide_eq_true c5), if_pos (by rw [decide_eq_true_eq]; simp; omega)]

/-! what fits -/

def kE (k : Int) : List PV := [pI k]
def bE (b : Bool) : List PV := [pB b]
def fit1 (v : Val) (k : Int) (b : Bool) : Bool := decide (v.k = k ∨ (b = true ∧ v.k = 0))
def fitAt (r : List Val) (ks : List Int) (ns : List Bool) (i : Nat) : Bool := fit1 (r.getD i nul) (ks.getD i 0) (ns.getD i false)
def fitsR (r : List Val) (ks : List Int) (ns : List Bool) : Bool := mayR r && decide (r.length = ks.length ∧ r.length = ns.length ∧ ∀ i, i < r.length → fitAt r ks ns i = true)

theorem getD_at {α : Type} {l : List α} {i : Nat} (h : i < l.length) (d : α) : l.getD i d = l[i] := by rw [List.getD, List.getElem?_eq_getElem h]; rfl

theorem fits_res (r : List Val) (ks : List Int) (ns : List Bool) (hr : okR r) : (m_row_Fits [.l (re r), .l (ks.map kE), .l (ns.map bE)]).res = some (0, [.b (fitsR r ks ns)]) := by
  have h1 := row_May_res r hr
  have hl := hr.1
  unfold fitsR
  cases m1 : mayR r with
  | false => simp only [m_row_Fits, h1, m1, ok_some', out_some, res_test, res_stop, uB_0, beq_self_eq_true, if_true, Bool.not_false, Bool.false_and]
  | true =>
    by_cases e1 : r.length = ks.length
    · by_cases e2 : r.length = ns.length
      · have h := loop_ix r.length (rd := rd_row_Fits_39_4) (fun i => [.l (ks.map kE), .l (ns.map bE), .l (re r), .i (r.length : Nat), .i (i : Nat)]) (fitAt r ks ns) 0 1 (fun _ => [.b false]) []
          (by simp [rd_row_Fits_39_4]) (by
          intro i h _
          have hk : i < ks.length := by omega
          have hn : i < ns.length := by omega
          unfold fitAt
          rw [getD_at h, getD_at hk, getD_at hn]
          simp only [rd_row_Fits_39_4, rt_test, rt_stop, rt_next, re, el_map _ _ h, el_map _ _ hk, el_map _ _ hn, Val.e, kE, bE, cI_p, cB_p, ln_map, inR_cast, Int.ofNat_lt, h, hk, hn, decide_true, if_true, w64_succ (i := i) (by omega)]
          unfold fit1
          by_cases a1 : r[i].k = ks[i]
          · simp [a1]
          · by_cases a2 : ns[i] = true
            · by_cases a3 : r[i].k = 0
              · simp [a1, a2, a3]
              · simp [a1, a2, a3]
            · simp [a1, a2])
        simp only [Int.natCast_zero] at h
        have e3 : ((r.length : Int) != (ks.length : Int)) = false := by simp [e1]
        have e4 : ((r.length : Int) != (ns.length : Int)) = false := by simp [e2]
        rcases h with ⟨h2, h⟩ | ⟨i, hi, h2, _, h⟩
        · simp only [m_row_Fits, h1, m1, ok_some', out_some, res_test, res_stop, uB_0, beq_self_eq_true, if_true, Bool.not_true, Bool.false_eq_true, if_false, ln_re, ln_map, e3, e4, h, show ((0 : Nat) == 1) = false from rfl, Bool.true_and]
          rw [decide_eq_true ⟨e1, e2, h2⟩]
        · simp only [m_row_Fits, h1, m1, ok_some', out_some, res_test, res_stop, uB_0, beq_self_eq_true, if_true, Bool.not_true, Bool.false_eq_true, if_false, ln_re, ln_map, e3, e4, h, Bool.true_and]
          rw [decide_eq_false fun hh => by rw [hh.2.2 i hi] at h2; cases h2]
      · have e3 : ((r.length : Int) != (ks.length : Int)) = false := by simp [e1]
        have e4 : ((r.length : Int) != (ns.length : Int)) = true := by simp; omega
        simp only [m_row_Fits, h1, m1, ok_some', out_some, res_test, res_stop, uB_0, beq_self_eq_true, if_true, Bool.not_true, Bool.false_eq_true, if_false, ln_re, ln_map, e3, e4, Bool.true_and]
        rw [decide_eq_false fun hh => e2 hh.2.1]
    · have e3 : ((r.length : Int) != (ks.length : Int)) = true := by simp; omega
      simp only [m_row_Fits, h1, m1, ok_some', out_some, res_test, res_stop, uB_0, beq_self_eq_true, if_true, Bool.not_true, Bool.false_eq_true, if_false, ln_re, ln_map, e3, Bool.true_and]
      rw [decide_eq_false fun hh => e1 hh.1]

theorem fitsR_iff {r : List Val} {ks : List Int} {ns : List Bool} : fitsR r ks ns = true ↔ mayR r = true ∧ r.length = ks.length ∧ r.length = ns.length ∧ ∀ i, i < r.length → fitAt r ks ns i = true := by
  unfold fitsR
  rw [Bool.and_eq_true, decide_eq_true_eq]

theorem mayR_iff {r : List Val} : mayR r = true ↔ r.length ≤ 40 ∧ ∀ v ∈ r, mayV v = true := by
  unfold mayR
  rw [Bool.and_eq_true, decide_eq_true_eq, List.all_eq_true]

theorem set_okR {r : List Val} (hr : okR r) (i : Nat) : okR (r.set i nul) :=
  ⟨by rw [List.length_set]; exact hr.1, fun v hv => by
    rcases List.mem_or_eq_of_mem_set hv with h | rfl
    · exact hr.2 v h
    · exact nul_ok⟩

theorem rowFits_res (r : List Val) (ks : List Int) (ns : List Bool) (pk : List (List PV)) (at_ : Int) (hr : okR r) : (m_L04_RowFits [.l (re r), .l (ks.map kE), .l (ns.map bE), .l pk, .i at_]).res = some (0, [.b true]) := by
  have h1 := long_res r hr.1
  have h2 := fits_res r ks ns hr
  cases l1 : longR r with
  | true => simp only [m_L04_RowFits, h1, l1, ok_some', out_some, res_test, res_stop, uB_0, beq_self_eq_true, if_true]
  | false =>
    cases f1 : fitsR r ks ns with
    | false => simp only [m_L04_RowFits, h1, h2, l1, f1, ok_some', out_some, res_test, res_stop, uB_0, beq_self_eq_true, if_true, Bool.false_eq_true, if_false, Bool.not_false]
    | true =>
      by_cases c1 : at_ < 0
      · simp only [m_L04_RowFits, h1, h2, l1, f1, ok_some', out_some, res_test, res_stop, uB_0, beq_self_eq_true, if_true, Bool.false_eq_true, if_false, Bool.not_true, c1, decide_true]
      · by_cases c2 : at_ ≥ (r.length : Int)
        · simp only [m_L04_RowFits, h1, h2, l1, f1, ok_some', out_some, res_test, res_stop, uB_0, beq_self_eq_true, if_true, Bool.false_eq_true, if_false, Bool.not_true, c1, decide_false, ln_re, c2, decide_true]
        · obtain ⟨k, rfl⟩ : ∃ k : Nat, at_ = k := ⟨at_.toNat, by omega⟩
          have hk : k < r.length := by omega
          obtain ⟨o1, n1⟩ := long_okT hr l1
          obtain ⟨g1, g2, g3, g4⟩ := fitsR_iff.1 f1
          have hl := loop_acc (rd := rd_L04_RowFits_11_5) r.length (fun i => [.l (re r), .i (k : Nat), .i (i : Nat), .l (ks.map kE), .l (ns.map bE), .l pk, .l ((List.replicate i true).map bE)]) (some (0, [.l (re r), .i (k : Nat), .l (ks.map kE), .l (ns.map bE), .l pk, .l ((List.replicate r.length true).map bE)]))
            (lres_stop (by simp [rd_L04_RowFits_11_5])) (by
            intro i h
            have e1 : (((List.replicate i true).map bE).length + 1) * 1 ≤ 140737488355328 := by simp; omega
            have e2 : (List.replicate (i + 1) true).map bE = (List.replicate i true).map bE ++ [[pB true]] := by rw [List.replicate_succ', List.map_append]; rfl
            simp only [rd_L04_RowFits_11_5, rt_test, rt_next, ln_re, Int.ofNat_lt, h, decide_true, if_true, e1, e2, w64_succ (i := i) (by omega)])
          simp only [Int.natCast_zero, List.replicate_zero, List.map_nil] at hl
          have f2 := fits_res r ks (List.replicate r.length true) hr
          have f3 := fits_res (r.set k nul) ks ns (set_okR hr k)
          have f4 : fitsR r ks (List.replicate r.length true) = true := by
            rw [fitsR_iff]
            refine ⟨g1, g2, by simp, fun i hi => ?_⟩
            have := g4 i hi
            unfold fitAt fit1 at this ⊢
            rw [decide_eq_true_eq] at this ⊢
            rcases this with h | h
            · exact .inl h
            · exact .inr ⟨by rw [getD_at (by simpa using hi)]; simp, h.2⟩
          have f5 : fitsR (r.set k nul) ks ns = decide (ks.getD k 0 = 0 ∨ ns.getD k false = true) := by
            have ms : mayR (r.set k nul) = true := by
              rw [mayR_iff] at g1 ⊢
              refine ⟨by rw [List.length_set]; exact g1.1, fun v hv => ?_⟩
              rcases List.mem_or_eq_of_mem_set hv with h | rfl
              · exact g1.2 v h
              · rfl
            rw [Bool.eq_iff_iff, fitsR_iff, decide_eq_true_eq, List.length_set]
            constructor
            · rintro ⟨_, _, _, h⟩
              have := h k hk
              unfold fitAt fit1 at this
              rw [decide_eq_true_eq, getD_at (by simpa using hk)] at this
              simp only [List.getElem_set_self] at this
              rcases this with h | h
              · exact .inl h.symm
              · exact .inr h.1
            · intro h
              refine ⟨ms, g2, g3, fun i hi => ?_⟩
              by_cases e : i = k
              · subst e
                unfold fitAt fit1
                rw [decide_eq_true_eq, getD_at (by simpa using hk)]
                simp only [List.getElem_set_self]
                rcases h with h | h
                · exact .inl h.symm
                · exact .inr ⟨h, rfl⟩
              · have := g4 i hi
                unfold fitAt at this ⊢
                have e2 : (r.set k nul).getD i nul = r.getD i nul := by
                  rw [getD_at (by simpa using hi), getD_at hi, List.getElem_set_ne (Ne.symm e)]
                rw [e2]; exact this
          have hset : ((re r).set k (setCells (el (re r) (k : Int)) 0 [pI 0, pI 0, pS (bs [])])) = re (r.set k nul) := by
            have e1 : setCells (el (re r) (k : Int)) 0 [pI 0, pI 0, pS (bs [])] = Val.e nul := by
              unfold re
              rw [el_map _ _ hk]
              rfl
            rw [e1]
            unfold re
            rw [List.map_set]
          have e1 : (0 + (re r).length) * 32 ≤ 140737488355328 := by rw [re_len]; omega
          have e3 : k < (re r).length := by rw [re_len]; exact hk
          have hks : k < ks.length := by omega
          have hns : k < ns.length := by omega
          have c2' : ¬ ((k : Int) ≥ (r.length : Int)) := c2
          simp only [m_L04_RowFits, h1, h2, l1, f1, ok_some', out_some, res_test, res_stop, uB_0, uL_0, uL_s, uI_s, uI_0, beq_self_eq_true, if_true, Bool.false_eq_true, if_false, Bool.not_true, c1, decide_false, ln_re, c2', hl, List.nil_append, e1, decide_true, inR_cast, hk, Int.toNat_natCast, e3, bs_nil, hset, f2, f3, f4, f5, ln_map, hks, hns, el_map _ _ hks, el_map _ _ hns, kE, bE, cI_p, cB_p]
          rw [getD_at hks, getD_at hns]
          by_cases b1 : ns[k] = true
          · simp [b1]
          · by_cases b2 : ks[k] = 0
            · simp [b1, b2]
            · simp [b1, b2]

end Go.Proofs.YtccgmaeflmbmlaaDoor

set_option linter.unusedSimpArgs false
set_option linter.unusedVariables false
namespace Go.Proofs.YtccgmaeflmbmlaaDoor
open Go Go.Pu

/-- a row, as an element of a list of rows -/
structure Rw where
  row : List Val
  deriving DecidableEq
def Rw.e (r : Rw) : List PV := [.lst 25 (re r.row)]

def dC (N : Nat) (f : Nat → Rw) : List (List PV) := (tab N f).map Rw.e
@[simp] theorem dC_length (N : Nat) (f : Nat → Rw) : (dC N f).length = N := by simp [dC]
@[simp] theorem dC_ln (N : Nat) (f : Nat → Rw) : ln (dC N f) = (N : Int) := by simp [ln]
theorem dC_el (N : Nat) (f : Nat → Rw) {i : Nat} (h : i < N) : el (dC N f) (i : Int) = (f i).e := by
  unfold dC
  rw [el_map _ _ (by simpa using h), tab_get]
theorem dC_set (N : Nat) (f : Nat → Rw) (i : Nat) (x : Rw) : (dC N f).set i x.e = dC N (updF f i x) := by
  unfold dC; rw [← List.map_set, tab_set]
theorem setC (x y : Rw) : setCells x.e 0 [PV.lst 25 (cL y.e 0)] = y.e := by simp [Rw.e, setCells]
theorem add64 {a b : Nat} (h : a + b < 4611686018427387904) : w64 ((a : Int) + (b : Int)) = ((a + b : Nat) : Int) := by
  rw [w64_eq (by omega) (by omega)]; omega
theorem sub64 {a b : Nat} (h : b ≤ a) (h2 : a < 4611686018427387904) : w64 ((a : Int) - (b : Int)) = ((a - b : Nat) : Int) := by
  rw [w64_eq (by omega) (by omega)]; omega
theorem sub64' {a : Nat} (h : 1 ≤ a) (h2 : a < 4611686018427387904) : w64 ((a : Int) - 1) = ((a - 1 : Nat) : Int) := by
  rw [w64_eq (by omega) (by omega)]; omega

theorem swapRange_res (N : Nat) (f : Nat → Rw) (a b n : Nat) (h1 : a + n ≤ b) (h2 : b + n ≤ N) (hN : N ≤ 4398046511104) :
    (m_slices_swapRangeCmpFunc_Row [.i a, .i b, .i n, .l (dC N f)]).res = some (0, [.l (dC N (sw f a b n))]) := by
  have hl : lres rd_slices_swapRangeCmpFunc_Row_117_1 [.i a, .i b, .i n, .i (0 : Nat), .l (dC N f)] = some (0, [.l (dC N (sw f a b n))]) := by
    have := loop_acc (rd := rd_slices_swapRangeCmpFunc_Row_117_1) n (fun i => [.i a, .i b, .i n, .i (i : Nat), .l (dC N (sw f a b i))]) (some (0, [.l (dC N (sw f a b n))]))
      (lres_stop (by simp [rd_slices_swapRangeCmpFunc_Row_117_1]))
      (fun i hi => by
        simp only [rd_slices_swapRangeCmpFunc_Row_117_1, add64 (a := a) (b := i) (by omega), add64 (a := b) (b := i) (by omega), Int.toNat_natCast, dC_el N _ (show a + i < N by omega), dC_el N _ (show b + i < N by omega), setC, dC_set, updF_updF,
          sw_succ f (show a + (i + 1) ≤ b by omega)]
        simp [-Int.natCast_add, w64_succ (i := i) (by omega), show i < n from hi, show a + i < N by omega, show b + i < N by omega])
    simpa [sw_0] using this
  simp only [m_slices_swapRangeCmpFunc_Row]
  have h0 : ((0 : Nat) : Int) = 0 := rfl
  rw [h0] at hl
  simp [hl]

theorem rotate_loop (N m : Nat) (hN : N ≤ 4398046511104) : ∀ (s i j : Nat) (f : Nat → Rw), i + j ≤ s → 0 < i → 0 < j → i ≤ m → m + j ≤ N →
    ∃ r g, 0 < r ∧ r ≤ m ∧ m + r ≤ N ∧ lres rd_slices_rotateCmpFunc_Row_105_2 [.i m, .i i, .i j, .l (dC N f)] = some (0, [.i m, .i r, .l (dC N g)]) ∧ sw g (m - r) m r = rt f (m - i) m (m + j) ∧ (tab N g).Perm (tab N f) := by
  intro s
  induction s with
  | zero => intro i j f h h1 h2; omega
  | succ s ih =>
    intro i j f h h1 h2 h3 h4
    rcases Nat.lt_trichotomy i j with hij | hij | hij
    · obtain ⟨r, g, g1, g2, g3, g4, g5, g6⟩ := ih i (j - i) (sw f (m - i) (m + j - i) i) (by omega) h1 (by omega) h3 (by omega)
      refine ⟨r, g, g1, g2, g3, ?_, by rw [g5, rt_lt f h3 h1 hij], g6.trans (sw_perm N f i (by omega) (by omega))⟩
      rw [← g4]
      refine lres_next ?_
      have e := swapRange_res N f (m - i) (m + j - i) i (by omega) (by omega) hN
      simp only [rd_slices_rotateCmpFunc_Row_105_2, sub64 (a := m) (b := i) h3 (by omega), add64 (a := m) (b := j) (by omega), sub64 (a := m + j) (b := i) (by omega) (by omega), sub64 (a := j) (b := i) (by omega) (by omega)]
      simp [-Int.natCast_add, e, show ¬ ((i : Int) = (j : Int)) by omega, show ¬ (j < i) by omega]
    · subst hij
      refine ⟨i, f, h1, h3, h4, lres_stop ?_, rt_eq f h3, List.Perm.refl _⟩
      simp [rd_slices_rotateCmpFunc_Row_105_2]
    · obtain ⟨r, g, g1, g2, g3, g4, g5, g6⟩ := ih (i - j) j (sw f (m - i) m j) (by omega) (by omega) h2 (by omega) h4
      refine ⟨r, g, g1, g2, g3, ?_, by rw [g5, rt_gt f h3 h2 hij], g6.trans (sw_perm N f j (by omega) (by omega))⟩
      rw [← g4]
      refine lres_next ?_
      have e := swapRange_res N f (m - i) m j (by omega) (by omega) hN
      simp only [rd_slices_rotateCmpFunc_Row_105_2, sub64 (a := m) (b := i) h3 (by omega), sub64 (a := i) (b := j) (by omega) (by omega)]
      simp [-Int.natCast_add, e, show ¬ ((i : Int) = (j : Int)) by omega, show j < i by omega]

theorem rotate_res (N : Nat) (f : Nat → Rw) (a m b : Nat) (h1 : a < m) (h2 : m < b) (h3 : b ≤ N) (hN : N ≤ 4398046511104) :
    (m_slices_rotateCmpFunc_Row [.i a, .i m, .i b, .l (dC N f)]).res = some (0, [.l (dC N (rt f a m b))]) ∧ (tab N (rt f a m b)).Perm (tab N f) := by
  obtain ⟨r, g, g1, g2, g3, g4, g5, g6⟩ := rotate_loop N m hN (b - a) (m - a) (b - m) f (by omega) (by omega) (by omega) (by omega) (by omega)
  have e1 : m - (m - a) = a := by omega
  have e2 : m + (b - m) = b := by omega
  rw [e1, e2] at g5
  rw [← g5]
  have e := swapRange_res N g (m - r) m r (by omega) (by omega) hN
  refine ⟨?_, (sw_perm N g r (by omega) (by omega)).trans g6⟩
  simp only [m_slices_rotateCmpFunc_Row, sub64 (a := m) (b := a) (by omega) (by omega), sub64 (a := b) (b := m) (by omega) (by omega), g4]
  simp [-Int.natCast_add, sub64 (a := m) (b := r) (by omega) (by omega), e]

/-! insertion -/

def cC (x y : Rw) : Int := cmpR x.row y.row
theorem preC : Pre cC := ⟨fun a b => cR.anti _ _, fun a b d => cR.trans _ _ _⟩
def okF (f : Nat → Rw) : Prop := ∀ k, (f k).row.length ≤ 4398046511104
theorem okF.mv {N a b : Nat} {f g : Nat → Rw} (h : okF f) (hm : Mv N a b g f) : okF g := by
  intro k
  by_cases e : a ≤ k ∧ k < b
  · obtain ⟨k', _, _, e2⟩ := hm.frm k e.1 e.2
    rw [e2]; exact h k'
  · rw [hm.out k (by omega)]; exact h k
theorem cmpC_res (x y : Rw) (h : x.row.length ≤ 4398046511104) : (m_row_Compare [.l (cL x.e 0), .l (cL y.e 0)]).res = some (0, [.i (cC x y)]) := row_Compare_res x.row y.row h

theorem ins_loop (N : Nat) (hN : N ≤ 4398046511104) (a b i : Nat) (hi : i < N) : ∀ (j : Nat) (f : Nat → Rw), a ≤ j → j ≤ i → okF f → Ins cC f a i j →
    ∃ g, lres rd_slices_insertionSortCmpFunc_Row_92_4 [.i a, .i b, .i i, .i j, .l (dC N f)] = some (0, [.i a, .i b, .i i, .l (dC N g)]) ∧ Mv N a (i + 1) g f ∧ srt cC g a (i + 1) := by
  intro j
  induction j with
  | zero =>
    intro f h1 h2 hf hI
    have : a = 0 := by omega
    subst this
    refine ⟨f, lres_stop ?_, Mv.refl _ _ _ _, hI.done0⟩
    simp [rd_slices_insertionSortCmpFunc_Row_92_4]
  | succ j ih =>
    intro f h1 h2 hf hI
    by_cases ha : a = j + 1
    · subst ha
      refine ⟨f, lres_stop ?_, Mv.refl _ _ _ _, hI.done0⟩
      simp [rd_slices_insertionSortCmpFunc_Row_92_4]
    · have e1 : w64 (((j + 1 : Nat) : Int) - 1) = (j : Int) := by rw [sub64' (by omega) (by omega)]; simp
      have hc := cmpC_res (f (j + 1)) (f j) (hf _)
      by_cases hlt : cC (f (j + 1)) (f j) < 0
      · have hI' := hI.next preC (by omega) h2 (by simpa using hlt)
        have hm : Mv N a (i + 1) (sw1 f (j + 1) j) f := Mv.sw1 f (by omega) (by omega) (by omega)
        obtain ⟨g, g1, g2, g3⟩ := ih (sw1 f (j + 1) j) (by omega) (by omega) (hf.mv hm) hI'
        refine ⟨g, ?_, g2.trans hm, g3⟩
        rw [← g1]
        refine lres_next ?_
        simp only [rd_slices_insertionSortCmpFunc_Row_92_4, e1, Int.toNat_natCast, dC_el N f (show j + 1 < N by omega), dC_el N f (show j < N by omega), hc, setC, dC_set]
        rw [dC_el N _ (show j < N by omega)]
        simp only [setC, dC_set, updF_updF]
        simp [-Int.natCast_add, hlt, show a < j + 1 by omega, show j + 1 < N by omega, show j < N by omega]
      · refine ⟨f, lres_stop ?_, Mv.refl _ _ _ _, hI.done preC (by omega) h2 (by simpa using hlt)⟩
        simp only [rd_slices_insertionSortCmpFunc_Row_92_4, e1, Int.toNat_natCast, dC_el N f (show j + 1 < N by omega), dC_el N f (show j < N by omega), hc, setC, dC_set]
        simp [-Int.natCast_add, hlt, show a < j + 1 by omega, show j + 1 < N by omega, show j < N by omega]

theorem insertion_res (N : Nat) (hN : N ≤ 4398046511104) (a b : Nat) (f : Nat → Rw) (hab : a ≤ b) (hb : b ≤ N) (hf : okF f) :
    ∃ g, (m_slices_insertionSortCmpFunc_Row [.i a, .i b, .l (dC N f)]).res = some (0, [.l (dC N g)]) ∧ Mv N a b g f ∧ srt cC g a b := by
  have key : ∀ s i (f : Nat → Rw), a ≤ i → b ≤ i + s → okF f → srt cC f a i → i ≤ b ∨ i = a + 1 → ∃ g, lres rd_slices_insertionSortCmpFunc_Row_92_1 [.i a, .i b, .i i, .l (dC N f)] = some (0, [.l (dC N g)]) ∧ Mv N a b g f ∧ srt cC g a b := by
    intro s
    induction s with
    | zero =>
      intro i f h1 h2 hf hs h3
      refine ⟨f, lres_stop ?_, Mv.refl _ _ _ _, srt_sub hs (Nat.le_refl _) (by omega)⟩
      simp [rd_slices_insertionSortCmpFunc_Row_92_1, show ¬ (i < b) by omega]
    | succ s ih =>
      intro i f h1 h2 hf hs h3
      by_cases hi : i < b
      · obtain ⟨g, g1, g2, g3⟩ := ins_loop N hN a b i (by omega) i f h1 (Nat.le_refl _) hf (Ins.start preC hs)
        obtain ⟨k, k1, k2, k3⟩ := ih (i + 1) g (by omega) (by omega) (hf.mv g2) g3 (by omega)
        refine ⟨k, ?_, k2.trans (g2.wide (Nat.le_refl _) (by omega)), k3⟩
        rw [← k1]
        refine lres_next ?_
        simp only [rd_slices_insertionSortCmpFunc_Row_92_1, g1]
        simp [-Int.natCast_add, hi, w64_succ (i := i) (by omega)]
      · refine ⟨f, lres_stop ?_, Mv.refl _ _ _ _, srt_sub hs (Nat.le_refl _) (by omega)⟩
        simp [rd_slices_insertionSortCmpFunc_Row_92_1, hi]
  obtain ⟨g, g1, g2, g3⟩ := key b (a + 1) f (by omega) (by omega) hf (srt_one preC f (by omega)) (.inr rfl)
  refine ⟨g, ?_, g2, g3⟩
  simp only [m_slices_insertionSortCmpFunc_Row, w64_succ (i := a) (by omega), g1]
  simp

/-! symMerge -/

theorem rt_perm (N : Nat) (hN : N ≤ 4398046511104) (f : Nat → Rw) {s m e : Nat} (h1 : s ≤ m) (h2 : m ≤ e) (h3 : e ≤ N) : (tab N (rt f s m e)).Perm (tab N f) := by
  by_cases e1 : s = m
  · subst e1; rw [rt_self]
  · by_cases e2 : m = e
    · subst e2; rw [rt_self']
    · exact (rotate_res N f s m e (by omega) (by omega) h3 hN).2

def ltB (x y : Rw) : Bool := decide (cC x y < 0)

theorem sm3 (N : Nat) (hN : N ≤ 4398046511104) (f : Nat → Rw) (hf : okF f) (a lo hi : Nat) (ha : a < N) (h1 : lo ≤ hi) (h2 : hi ≤ N) :
    ∃ r, lo ≤ r ∧ r ≤ hi ∧ lres rd_slices_symMergeCmpFunc_Row_93_3 [.i a, .i lo, .i hi, .l (dC N f)] = some (0, [.i a, .i r, .l (dC N f)]) ∧ (lo < r → ltB (f (r - 1)) (f a) = true) ∧ (r < hi → ltB (f r) (f a) = false) := by
  refine bin_loop (fun i j => [.i a, .i i, .i j, .l (dC N f)]) (fun i => [.i a, .i i, .l (dC N f)]) (fun k => ltB (f k) (f a)) lo hi ?_ ?_ (hi - lo) lo hi (by omega) (by omega) h1 (by omega) (by omega) (by omega)
  · intro i _ _
    simp [rd_slices_symMergeCmpFunc_Row_93_3]
  · intro i j g1 g2 g3
    simp only [rd_slices_symMergeCmpFunc_Row_93_3, mid_eq (i := i) (j := j) (by omega) (by omega)]
    have hh : (i + j) / 2 < N := by omega
    generalize (i + j) / 2 = h at hh ⊢
    simp only [Int.toNat_natCast, dC_el N f hh, dC_el N f ha, cmpC_res _ _ (hf _), w64_succ (i := h) (by omega)]
    by_cases hc : cC (f h) (f a) < 0
    · simp [-Int.natCast_add, g2, hh, ha, ltB, hc]
    · simp [-Int.natCast_add, g2, hh, ha, ltB, hc]

theorem sm15 (N : Nat) (hN : N ≤ 4398046511104) (f : Nat → Rw) (hf : okF f) (m lo hi : Nat) (ha : m < N) (h1 : lo ≤ hi) (h2 : hi ≤ N) :
    ∃ r, lo ≤ r ∧ r ≤ hi ∧ lres rd_slices_symMergeCmpFunc_Row_93_15 [.i m, .i lo, .i hi, .l (dC N f)] = some (0, [.i m, .i r, .l (dC N f)]) ∧ (lo < r → (!ltB (f m) (f (r - 1))) = true) ∧ (r < hi → (!ltB (f m) (f r)) = false) := by
  refine bin_loop (fun i j => [.i m, .i i, .i j, .l (dC N f)]) (fun i => [.i m, .i i, .l (dC N f)]) (fun k => !ltB (f m) (f k)) lo hi ?_ ?_ (hi - lo) lo hi (by omega) (by omega) h1 (by omega) (by omega) (by omega)
  · intro i _ _
    simp [rd_slices_symMergeCmpFunc_Row_93_15]
  · intro i j g1 g2 g3
    simp only [rd_slices_symMergeCmpFunc_Row_93_15, mid_eq (i := i) (j := j) (by omega) (by omega)]
    have hh : (i + j) / 2 < N := by omega
    generalize (i + j) / 2 = h at hh ⊢
    simp only [Int.toNat_natCast, dC_el N f hh, dC_el N f ha, cmpC_res _ _ (hf _), w64_succ (i := h) (by omega)]
    by_cases hc : cC (f m) (f h) < 0
    · simp [-Int.natCast_add, g2, hh, ha, ltB, hc]
    · simp [-Int.natCast_add, g2, hh, ha, ltB, hc]

theorem sm9 (N : Nat) (hN : N ≤ 4398046511104) (f : Nat → Rw) (a r : Nat) (h1 : a + 1 ≤ r) (h2 : r ≤ N) :
    lres rd_slices_symMergeCmpFunc_Row_93_9 [.i r, .i a, .l (dC N f)] = some (0, [.l (dC N (rt f a (a + 1) r))]) := by
  have := loop_acc (rd := rd_slices_symMergeCmpFunc_Row_93_9) (r - a - 1) (fun t => [.i r, .i (a + t : Nat), .l (dC N (rt f a (a + 1) (a + 1 + t)))]) (some (0, [.l (dC N (rt f a (a + 1) r))]))
    (lres_stop (by
      rw [show a + 1 + (r - a - 1) = r by omega]
      simp [-Int.natCast_add, rd_slices_symMergeCmpFunc_Row_93_9, sub64' (a := r) (by omega) (by omega), show ¬ (a + (r - a - 1) < r - 1) by omega]))
    (fun t ht => by
      simp only [rd_slices_symMergeCmpFunc_Row_93_9, w64_succ (i := a + t) (by omega), sub64' (a := r) (by omega) (by omega), Int.toNat_natCast, dC_el N _ (show a + t < N by omega), dC_el N _ (show a + t + 1 < N by omega), setC, dC_set, updF_updF, rt_up]
      simp [-Int.natCast_add, show a + t < r - 1 by omega, show a + t < N by omega, show a + t + 1 < N by omega]
      rfl)
  simpa [rt_self'] using this

theorem sm21 (N : Nat) (hN : N ≤ 4398046511104) (f : Nat → Rw) (r m : Nat) (h1 : r ≤ m) (h2 : m < N) :
    lres rd_slices_symMergeCmpFunc_Row_93_21 [.i r, .i m, .l (dC N f)] = some (0, [.l (dC N (rt f r m (m + 1)))]) := by
  have := loop_acc (rd := rd_slices_symMergeCmpFunc_Row_93_21) (m - r) (fun t => [.i r, .i (m - t : Nat), .l (dC N (rt f (m - t) m (m + 1)))]) (some (0, [.l (dC N (rt f r m (m + 1)))]))
    (lres_stop (by
      rw [show m - (m - r) = r by omega]
      simp [rd_slices_symMergeCmpFunc_Row_93_21]))
    (fun t ht => by
      simp only [rd_slices_symMergeCmpFunc_Row_93_21, sub64' (a := m - t) (by omega) (by omega), Int.toNat_natCast, dC_el N _ (show m - t < N by omega), dC_el N _ (show m - t - 1 < N by omega), setC, dC_set, updF_updF, rt_down f (show t < m by omega)]
      simp [-Int.natCast_add, show r < m - t by omega, show m - t < N by omega, show m - t - 1 < N by omega]
      rfl)
  simpa [rt_self] using this

theorem sm33 (N : Nat) (hN : N ≤ 4398046511104) (f : Nat → Rw) (hf : okF f) (a m b mid n p lo hi : Nat) (h1 : lo ≤ hi) (h2 : hi ≤ N) (hp : hi ≤ p + 1) (hp2 : p < N + lo) (hp3 : p < 4611686018427387904) :
    ∃ r, lo ≤ r ∧ r ≤ hi ∧ lres rd_slices_symMergeCmpFunc_Row_93_33 [.i a, .i m, .i b, .i mid, .i n, .i lo, .i hi, .i p, .l (dC N f)] = some (0, [.i a, .i m, .i b, .i mid, .i n, .i r, .l (dC N f)]) ∧
      (lo < r → (!ltB (f (p - (r - 1))) (f (r - 1))) = true) ∧ (r < hi → (!ltB (f (p - r)) (f r)) = false) := by
  refine bin_loop (fun i j => [.i a, .i m, .i b, .i mid, .i n, .i i, .i j, .i p, .l (dC N f)]) (fun i => [.i a, .i m, .i b, .i mid, .i n, .i i, .l (dC N f)]) (fun k => !ltB (f (p - k)) (f k)) lo hi ?_ ?_ (hi - lo) lo hi (by omega) (by omega) h1 (by omega) (by omega) (by omega)
  · intro i _ _
    simp [rd_slices_symMergeCmpFunc_Row_93_33]
  · intro i j g1 g2 g3
    simp only [rd_slices_symMergeCmpFunc_Row_93_33, mid_eq (i := i) (j := j) (by omega) (by omega)]
    have hh : (i + j) / 2 < N := by omega
    have h5 : (i + j) / 2 ≤ p := by omega
    have h6 : p - (i + j) / 2 < N := by omega
    generalize (i + j) / 2 = h at hh h5 h6 ⊢
    simp only [sub64 (a := p) (b := h) h5 hp3, Int.toNat_natCast, dC_el N f hh, dC_el N f h6, cmpC_res _ _ (hf _), w64_succ (i := h) (by omega)]
    by_cases hc : cC (f (p - h)) (f h) < 0
    · simp [-Int.natCast_add, g2, hh, h6, ltB, hc]
    · simp [-Int.natCast_add, g2, hh, h6, ltB, hc]

theorem ltB_le {x y : Rw} (h : ltB x y = true) : cC x y ≤ 0 := by
  have : cC x y < 0 := by simpa [ltB] using h
  omega
theorem ltB_ge {x y : Rw} (h : ltB x y = false) : cC y x ≤ 0 := by
  have : ¬ cC x y < 0 := by simpa [ltB] using h
  have := preC.anti x y
  omega

/-- a part that is merged, or was sorted -/
theorem sm_part (N a m b : Nat) (mr : List U → Rt) (f : Nat → Rw) (ih : a < m → m < b → ∃ g, (mr [.i a, .i m, .i b, .l (dC N f)]).res = some (0, [.l (dC N g)]) ∧ Mv N a b g f ∧ srt cC g a b)
    (h1 : srt cC f a m) (h2 : srt cC f m b) (ha : a ≤ m) (hb : m ≤ b) : ∃ g, Mv N a b g f ∧ srt cC g a b ∧ (a < m → m < b → (mr [.i a, .i m, .i b, .l (dC N f)]).res = some (0, [.l (dC N g)])) ∧ (¬ (a < m ∧ m < b) → g = f) := by
  by_cases h : a < m ∧ m < b
  · obtain ⟨g, g1, g2, g3⟩ := ih h.1 h.2
    exact ⟨g, g2, g3, fun _ _ => g1, fun hn => absurd h hn⟩
  · refine ⟨f, .refl _ _ _ _, ?_, fun h3 h4 => absurd ⟨h3, h4⟩ h, fun _ => rfl⟩
    by_cases e : a < m
    · have : m = b := by omega
      subst this; exact h1
    · have : m = a := by omega
      subst this; exact h2

set_option maxHeartbeats 4000000 in
theorem symMerge_res (N : Nat) (hN : N ≤ 4398046511104) : ∀ n a m b (f : Nat → Rw), a < m → m < b → b ≤ N → b - a ≤ 2 ^ n → okF f → srt cC f a m → srt cC f m b →
    ∃ g, (recM s_slices_symMergeCmpFunc_Row (n + 1) [.i a, .i m, .i b, .l (dC N f)]).res = some (0, [.l (dC N g)]) ∧ Mv N a b g f ∧ srt cC g a b := by
  intro n
  induction n with
  | zero => intro a m b f h1 h2 h3 h4; simp at h4; omega
  | succ n ih =>
    intro a m b f h1 h2 h3 h4 hf hs1 hs2
    have hp2 : (2 : Nat) ^ (n + 1) = 2 ^ n + 2 ^ n := by rw [Nat.pow_succ]; omega
    rw [hp2] at h4
    generalize (2 : Nat) ^ n = w at ih h4
    show ∃ g, (s_slices_symMergeCmpFunc_Row (recM s_slices_symMergeCmpFunc_Row (n + 1)) [.i a, .i m, .i b, .l (dC N f)]).res = some (0, [.l (dC N g)]) ∧ Mv N a b g f ∧ srt cC g a b
    generalize recM s_slices_symMergeCmpFunc_Row (n + 1) = mr at ih ⊢
    by_cases c1 : m - a = 1
    · have hm : m = a + 1 := by omega
      subst hm
      obtain ⟨r, r1, r2, r3, r4, r5⟩ := sm3 N hN f hf a (a + 1) b (by omega) (by omega) h3
      have hS : Split cC f a a (a + 1) r b := ⟨Nat.le_refl _, by omega, r1, r2, hs1, hs2, .inl rfl, by
        by_cases e : r = a + 1
        · exact .inl e
        · exact .inr (.inr (ltB_le (r4 (by omega))))⟩
      have hx := hS.cross preC
      have hYW : srt cC (rt f a (a + 1) r) (a + (r - (a + 1))) b := by
        refine srt_app hS.py hS.pw fun i j g1 g2 g3 g4 => ?_
        rw [rt_y f g1 g2, rt_w f (by omega) r1 g3]
        have e : i - (r - (a + 1)) = a := by omega
        rw [e]
        exact preC.trans _ _ _ (ltB_ge (r5 (by omega))) (hs2 r j r1 g3 g4)
      refine ⟨rt f a (a + 1) r, ?_, Mv.rt f (Nat.le_refl _) (by omega) r1 r2 (rt_perm N hN f (by omega) r1 (by omega)), srt_app hS.pz hYW hx⟩
      simp only [s_slices_symMergeCmpFunc_Row, sub64 (a := a + 1) (b := a) (by omega) (by omega), r3]
      have e9 := sm9 N hN f a r r1 (by omega)
      simp [-Int.natCast_add, e9]
    · by_cases c2 : b - m = 1
      · have hb : b = m + 1 := by omega
        subst hb
        obtain ⟨r, r1, r2, r3, r4, r5⟩ := sm15 N hN f hf m a m (by omega) (by omega) (by omega)
        have hS : Split cC f a r m (m + 1) (m + 1) := ⟨r1, r2, by omega, Nat.le_refl _, hs1, hs2, .inr (.inl rfl), by
          by_cases e : r = m
          · exact .inr (.inl e)
          · exact .inr (.inr (ltB_le (by simpa using r5 (by omega))))⟩
        have hx := hS.cross preC
        have hXZ : srt cC (rt f r m (m + 1)) a (r + (m + 1 - m)) := by
          refine srt_app hS.px hS.pz fun i j g1 g2 g3 g4 => ?_
          rw [rt_x f g2, rt_z f g3 g4]
          have e : j + m - r = m := by omega
          rw [e]
          exact preC.trans _ _ _ (hs1 i (r - 1) g1 (by omega) (by omega)) (ltB_ge (by simpa using r4 (by omega)))
        refine ⟨rt f r m (m + 1), ?_, Mv.rt f r1 r2 (by omega) (Nat.le_refl _) (rt_perm N hN f r2 (by omega) h3), srt_app hXZ hS.py hx⟩
        have e15 := sm21 N hN f r m r2 (by omega)
        simp only [s_slices_symMergeCmpFunc_Row, sub64 (a := m) (b := a) (by omega) (by omega), sub64 (a := m + 1) (b := m) (by omega) (by omega), r3]
        simp [-Int.natCast_add, e15, show ¬ ((m - a : Nat) : Int) = 1 by omega]
      · -- the halves
        have hmid : (a + b) / 2 < b := by omega
        have hmid2 : a < (a + b) / 2 := by omega
        have hw1 : (a + b) / 2 - a ≤ w := by omega
        have hw2 : b - (a + b) / 2 ≤ w := by omega
        have hq : ∃ r, (if (a + b) / 2 < m then (a + b) / 2 + m - b else a) ≤ r ∧ r ≤ (if (a + b) / 2 < m then (a + b) / 2 else m) ∧
            lres rd_slices_symMergeCmpFunc_Row_93_33 [.i a, .i m, .i b, .i ((a + b) / 2 : Nat), .i ((a + b) / 2 + m : Nat), .i (if (a + b) / 2 < m then (a + b) / 2 + m - b else a : Nat), .i (if (a + b) / 2 < m then (a + b) / 2 else m : Nat), .i ((a + b) / 2 + m - 1 : Nat), .l (dC N f)] =
              some (0, [.i a, .i m, .i b, .i ((a + b) / 2 : Nat), .i ((a + b) / 2 + m : Nat), .i r, .l (dC N f)]) ∧
            ((if (a + b) / 2 < m then (a + b) / 2 + m - b else a) < r → (!ltB (f ((a + b) / 2 + m - 1 - (r - 1))) (f (r - 1))) = true) ∧ (r < (if (a + b) / 2 < m then (a + b) / 2 else m) → (!ltB (f ((a + b) / 2 + m - 1 - r)) (f r)) = false) := by
          apply sm33 N hN f hf <;> first | omega | (split <;> omega)
        have hmm : (a + b) / 2 * 2 ≤ a + b ∧ a + b ≤ (a + b) / 2 * 2 + 1 := by omega
        have hme := mid_eq (i := a) (j := b) (by omega) (by omega)
        generalize (a + b) / 2 = mid at hmid hmid2 hw1 hw2 hq hmm hme
        obtain ⟨r, r1, r2, r3, r4, r5⟩ := hq
        have o2 : r ≤ m := by split at r2 <;> omega
        have o1 : a ≤ r := by split at r1 <;> omega
        have o3 : m ≤ mid + m - r := by split at r2 <;> omega
        have o4 : mid + m - r ≤ b := by split at r1 <;> omega
        have hS : Split cC f a r m (mid + m - r) b := ⟨o1, o2, o3, o4, hs1, hs2, by
            by_cases e : (if mid < m then mid + m - b else a) < r
            · have := ltB_ge (by simpa using r4 e)
              rw [show mid + m - 1 - (r - 1) = mid + m - r by omega] at this
              exact .inr (.inr this)
            · split at e
              · exact .inr (.inl (by omega))
              · exact .inl (by omega), by
            by_cases e : r < (if mid < m then mid else m)
            · have := ltB_le (by simpa using r5 e)
              rw [show mid + m - 1 - r = mid + m - r - 1 by omega] at this
              exact .inr (.inr this)
            · split at e
              · exact .inl (by omega)
              · exact .inr (.inl (by omega))⟩
        have hx := hS.cross preC
        have hpx := hS.px
        have hpz := hS.pz
        have hpy := hS.py
        have hpw := hS.pw
        have hmv := Mv.rt (N := N) f o1 o2 o3 o4 (rt_perm N hN f o2 o3 (by omega))
        have hmd : r + (mid + m - r - m) = mid := by omega
        rw [hmd] at hx hpz hpy
        have hrot : (r < m ∧ m < mid + m - r) → (m_slices_rotateCmpFunc_Row [.i r, .i m, .i (mid + m - r : Nat), .l (dC N f)]).res = some (0, [.l (dC N (rt f r m (mid + m - r)))]) := fun h => (rotate_res N f r m (mid + m - r) h.1 h.2 (by omega) hN).1
        have hrot' : ¬ (r < m ∧ m < mid + m - r) → rt f r m (mid + m - r) = f := fun h => by
          by_cases e : r = m
          · rw [e, rt_self]
          · rw [show mid + m - r = m by omega, rt_self']
        generalize hg1 : rt f r m (mid + m - r) = g1 at *
        have hf1 := hf.mv hmv
        obtain ⟨g2, a1, a2, a3, a4⟩ := sm_part N a r mid mr g1 (fun e1 e2 => ih a r mid g1 e1 e2 (by omega) hw1 hf1 hpx hpz) hpx hpz o1 (by omega)
        have hf2 := hf1.mv a1
        have hpy2 : srt cC g2 mid (mid + m - r) := srt_congr hpy fun k h1 h2 => a1.out k (.inr h1)
        have hpw2 : srt cC g2 (mid + m - r) b := srt_congr hpw fun k h1 h2 => a1.out k (.inr (by omega))
        obtain ⟨g3, b1, b2, b3, b4⟩ := sm_part N mid (mid + m - r) b mr g2 (fun e1 e2 => ih mid (mid + m - r) b g2 e1 e2 h3 hw2 hf2 hpy2 hpw2) hpy2 hpw2 (by omega) o4
        have hfin : srt cC g3 a b := by
          refine srt_app (srt_congr a2 fun k h1 h2 => b1.out k (.inl h2)) b2 (cross_mv (N := N) hx (fun k h1 h2 => ?_) (fun k h1 h2 => ?_))
          · rw [b1.out k (.inl h2)]; exact a1.frm k h1 h2
          · obtain ⟨k', d1, d2, d3⟩ := b1.frm k h1 h2
            exact ⟨k', d1, d2, by rw [d3, a1.out k' (.inr d1)]⟩
        refine ⟨g3, ?_, (b1.wide (by omega) (Nat.le_refl _)).trans ((a1.wide (Nat.le_refl _) (by omega)).trans hmv), hfin⟩
        have q1 : (r < m ∧ m < mid + m - r) ∧ (m_slices_rotateCmpFunc_Row [.i r, .i m, .i (mid + m - r : Nat), .l (dC N f)]).res = some (0, [.l (dC N g1)]) ∨ ¬ (r < m ∧ m < mid + m - r) ∧ g1 = f := by
          by_cases e : r < m ∧ m < mid + m - r
          · exact .inl ⟨e, hrot e⟩
          · exact .inr ⟨e, hrot' e⟩
        have q2 : (a < r ∧ r < mid) ∧ (mr [.i a, .i r, .i mid, .l (dC N g1)]).res = some (0, [.l (dC N g2)]) ∨ ¬ (a < r ∧ r < mid) ∧ g2 = g1 := by
          by_cases e : a < r ∧ r < mid
          · exact .inl ⟨e, a3 e.1 e.2⟩
          · exact .inr ⟨e, a4 e⟩
        have q3 : (mid < mid + m - r ∧ mid + m - r < b) ∧ (mr [.i mid, .i (mid + m - r : Nat), .i b, .l (dC N g2)]).res = some (0, [.l (dC N g3)]) ∨ ¬ (mid < mid + m - r ∧ mid + m - r < b) ∧ g3 = g2 := by
          by_cases e : mid < mid + m - r ∧ mid + m - r < b
          · exact .inl ⟨e, b3 e.1 e.2⟩
          · exact .inr ⟨e, b4 e⟩
        have n1 : ¬ ((m - a : Nat) : Int) = 1 := by omega
        have n2 : ¬ ((b - m : Nat) : Int) = 1 := by omega
        have w1 : w64 ((mid : Int) + (m : Int)) = ((mid + m : Nat) : Int) := add64 (by omega)
        have w2 : w64 (((mid + m : Nat) : Int) - 1) = ((mid + m - 1 : Nat) : Int) := sub64' (by omega) (by omega)
        have w3 : w64 (((mid + m : Nat) : Int) - (r : Int)) = ((mid + m - r : Nat) : Int) := sub64 (by omega) (by omega)
        have w4 : mid < m → w64 (((mid + m : Nat) : Int) - (b : Int)) = ((mid + m - b : Nat) : Int) := fun h => sub64 (by omega) (by omega)
        generalize he : mid + m - r = e at *
        clear ih a3 a4 b3 b4 hrot hrot' hx hpx hpz hpy hpw hS hs1 hs2 hpy2 hpw2 hfin a1 b1 a2 b2 hmv r4 r5
        simp only [s_slices_symMergeCmpFunc_Row, sub64 (a := m) (b := a) (by omega) (by omega), sub64 (a := b) (b := m) (by omega) (by omega), hme, w1, w2]
        by_cases c3 : mid < m
        · simp only [if_pos c3] at r3
          simp only [w4 c3, r3]
          by_cases hA : r < m <;> by_cases hA2 : m < e <;> by_cases hB : a < r <;> by_cases hB2 : r < mid <;> by_cases hC : mid < e <;> by_cases hC2 : e < b <;>
            simp [hA, hA2, hB, hB2, hC, hC2] at q1 q2 q3 <;> (try subst q1) <;> (try subst q2) <;> (try subst q3) <;> (first | simp [-Int.natCast_add, n1, n2, c3, w3, hA, hA2, hB, hB2, hC, hC2, q1, q2, q3] | simp [-Int.natCast_add, n1, n2, c3, w3, hA, hA2, hB, hB2, hC, hC2, q1, q2] | simp [-Int.natCast_add, n1, n2, c3, w3, hA, hA2, hB, hB2, hC, hC2, q1, q3] | simp [-Int.natCast_add, n1, n2, c3, w3, hA, hA2, hB, hB2, hC, hC2, q2, q3] | simp [-Int.natCast_add, n1, n2, c3, w3, hA, hA2, hB, hB2, hC, hC2, q1] | simp [-Int.natCast_add, n1, n2, c3, w3, hA, hA2, hB, hB2, hC, hC2, q2] | simp [-Int.natCast_add, n1, n2, c3, w3, hA, hA2, hB, hB2, hC, hC2, q3] | simp [-Int.natCast_add, n1, n2, c3, w3, hA, hA2, hB, hB2, hC, hC2])
        · simp only [if_neg c3] at r3
          simp only [r3]
          by_cases hA : r < m <;> by_cases hA2 : m < e <;> by_cases hB : a < r <;> by_cases hB2 : r < mid <;> by_cases hC : mid < e <;> by_cases hC2 : e < b <;>
            simp [hA, hA2, hB, hB2, hC, hC2] at q1 q2 q3 <;> (try subst q1) <;> (try subst q2) <;> (try subst q3) <;> (first | simp [-Int.natCast_add, n1, n2, c3, w3, hA, hA2, hB, hB2, hC, hC2, q1, q2, q3] | simp [-Int.natCast_add, n1, n2, c3, w3, hA, hA2, hB, hB2, hC, hC2, q1, q2] | simp [-Int.natCast_add, n1, n2, c3, w3, hA, hA2, hB, hB2, hC, hC2, q1, q3] | simp [-Int.natCast_add, n1, n2, c3, w3, hA, hA2, hB, hB2, hC, hC2, q2, q3] | simp [-Int.natCast_add, n1, n2, c3, w3, hA, hA2, hB, hB2, hC, hC2, q1] | simp [-Int.natCast_add, n1, n2, c3, w3, hA, hA2, hB, hB2, hC, hC2, q2] | simp [-Int.natCast_add, n1, n2, c3, w3, hA, hA2, hB, hB2, hC, hC2, q3] | simp [-Int.natCast_add, n1, n2, c3, w3, hA, hA2, hB, hB2, hC, hC2])

end Go.Proofs.YtccgmaeflmbmlaaDoor

set_option linter.unusedSimpArgs false
set_option linter.unusedVariables false
namespace Go.Proofs.YtccgmaeflmbmlaaDoor
open Go Go.Pu

/-- each block of w is sorted -/
def bls (f : Nat → Rw) (w n a b : Nat) : Prop := ∀ t, a ≤ t * w → t * w < b → srt cC f (t * w) (min (t * w + w) n)

theorem st2 (N : Nat) (hN : N ≤ 4398046511104) (n : Nat) (hn : n ≤ N) : ∀ s t (f : Nat → Rw), n ≤ t * 20 + s → t * 20 ≤ n → okF f → bls f 20 n 0 (t * 20) →
    ∃ g t', lres rd_slices_stableCmpFunc_Row_78_2 [.i n, .i (20 : Nat), .i (t * 20 : Nat), .i (t * 20 + 20 : Nat), .l (dC N f)] = some (0, [.i n, .i (20 : Nat), .i (t' * 20 : Nat), .l (dC N g)]) ∧
      t' * 20 ≤ n ∧ n < t' * 20 + 20 ∧ Mv N 0 n g f ∧ bls g 20 n 0 (t' * 20) := by
  intro s
  induction s with
  | zero =>
    intro t f h1 h2 hf hb
    refine ⟨f, t, lres_stop ?_, h2, by omega, .refl _ _ _ _, hb⟩
    simp [-Int.natCast_add, -Int.natCast_mul, rd_slices_stableCmpFunc_Row_78_2, show ¬ (t * 20 + 20 ≤ n) by omega]
  | succ s ih =>
    intro t f h1 h2 hf hb
    by_cases e : t * 20 + 20 ≤ n
    · obtain ⟨g, g1, g2, g3⟩ := insertion_res N hN (t * 20) (t * 20 + 20) f (by omega) (by omega) hf
      have hb2 : bls g 20 n 0 ((t + 1) * 20) := by
        intro u u1 u2
        by_cases e2 : u = t
        · subst e2; exact srt_sub g3 (Nat.le_refl _) (by omega)
        · refine srt_congr (hb u u1 (by omega)) fun k k1 k2 => g2.out k (.inl (by omega))
      obtain ⟨k, t', k1, k2, k3, k4, k5⟩ := ih (t + 1) g (by omega) (by omega) (hf.mv g2) hb2
      refine ⟨k, t', ?_, k2, k3, k4.trans (g2.wide (by omega) e), k5⟩
      rw [← k1, show (t + 1) * 20 = t * 20 + 20 by omega]
      refine lres_next ?_
      have w1 : w64 (((t * 20 + 20 : Nat) : Int) + ((20 : Nat) : Int)) = ((t * 20 + 20 + 20 : Nat) : Int) := add64 (by omega)
      generalize t * 20 = x at *
      simp only [rd_slices_stableCmpFunc_Row_78_2, g1, w1]
      simp [-Int.natCast_add, e]
    · refine ⟨f, t, lres_stop ?_, h2, by omega, .refl _ _ _ _, hb⟩
      generalize t * 20 = x at *
      simp [-Int.natCast_add, rd_slices_stableCmpFunc_Row_78_2, e]

theorem merge_res (N : Nat) (hN : N ≤ 4398046511104) (a m b : Nat) (f : Nat → Rw) (h1 : a < m) (h2 : m < b) (h3 : b ≤ N) (hf : okF f) (hs1 : srt cC f a m) (hs2 : srt cC f m b) :
    ∃ g, (m_slices_symMergeCmpFunc_Row [.i a, .i m, .i b, .l (dC N f)]).res = some (0, [.l (dC N g)]) ∧ Mv N a b g f ∧ srt cC g a b :=
  symMerge_res N hN 63 a m b f h1 h2 h3 (by have : (2 : Nat) ^ 63 = 9223372036854775808 := by decide
                                            omega) hf hs1 hs2

theorem st9 (N : Nat) (hN : N ≤ 4398046511104) (n : Nat) (hn : n ≤ N) (w : Nat) (hw : 0 < w) (hwn : w < n) : ∀ s t (f : Nat → Rw), n ≤ t * (2 * w) + s → t * (2 * w) ≤ n → okF f → bls f (2 * w) n 0 (t * (2 * w)) → bls f w n (t * (2 * w)) n →
    ∃ g t', lres rd_slices_stableCmpFunc_Row_78_9 [.i n, .i w, .i (t * (2 * w) : Nat), .i (t * (2 * w) + 2 * w : Nat), .l (dC N f)] = some (0, [.i n, .i w, .i (t' * (2 * w) : Nat), .l (dC N g)]) ∧
      t' * (2 * w) ≤ n ∧ n < t' * (2 * w) + 2 * w ∧ Mv N 0 n g f ∧ bls g (2 * w) n 0 (t' * (2 * w)) ∧ bls g w n (t' * (2 * w)) n := by
  intro s
  induction s with
  | zero =>
    intro t f h1 h2 hf hb hc
    refine ⟨f, t, lres_stop ?_, h2, by omega, .refl _ _ _ _, hb, hc⟩
    generalize t * (2 * w) = x at *
    simp [-Int.natCast_add, -Int.natCast_mul, rd_slices_stableCmpFunc_Row_78_9, show ¬ (x + 2 * w ≤ n) by omega]
  | succ s ih =>
    intro t f h1 h2 hf hb hc
    by_cases e : t * (2 * w) + 2 * w ≤ n
    · have p1 : (2 * t) * w = t * (2 * w) := by rw [Nat.mul_comm 2 t, Nat.mul_assoc]
      have p2 : (2 * t + 1) * w = t * (2 * w) + w := by rw [Nat.add_mul, p1, Nat.one_mul]
      have p3 : (t + 1) * (2 * w) = t * (2 * w) + 2 * w := by rw [Nat.add_mul, Nat.one_mul]
      have s1 := hc (2 * t) (by omega) (by omega)
      have s2 := hc (2 * t + 1) (by omega) (by omega)
      rw [p1] at s1
      rw [p2] at s2
      obtain ⟨g, g1, g2, g3⟩ := merge_res N hN (t * (2 * w)) (t * (2 * w) + w) (t * (2 * w) + 2 * w) f (by omega) (by omega) (by omega) hf (srt_sub s1 (Nat.le_refl _) (by omega)) (srt_sub s2 (Nat.le_refl _) (by omega))
      have hb2 : bls g (2 * w) n 0 ((t + 1) * (2 * w)) := by
        intro u u1 u2
        by_cases e2 : u = t
        · subst e2; exact srt_sub g3 (Nat.le_refl _) (by omega)
        · have hlt : u < t + 1 := Nat.lt_of_mul_lt_mul_right u2
          have hle : (u + 1) * (2 * w) ≤ t * (2 * w) := Nat.mul_le_mul_right _ (by omega)
          rw [Nat.add_mul, Nat.one_mul] at hle
          exact srt_congr (hb u u1 (by omega)) fun k k1 k2 => g2.out k (.inl (by omega))
      have hc2 : bls g w n ((t + 1) * (2 * w)) n := by
        intro u u1 u2
        exact srt_congr (hc u (by omega) u2) fun k k1 k2 => g2.out k (.inr (by omega))
      obtain ⟨k, t', k1, k2, k3, k4, k5, k6⟩ := ih (t + 1) g (by omega) (by omega) (hf.mv g2) hb2 hc2
      refine ⟨k, t', ?_, k2, k3, k4.trans (g2.wide (by omega) e), k5, k6⟩
      rw [← k1, p3]
      refine lres_next ?_
      have w0 : w64 ((2 : Int) * (w : Int)) = ((2 * w : Nat) : Int) := by rw [w64_eq (by omega) (by omega)]; omega
      clear p1 p2 p3 s1 s2 hb2 hc2 k1 ih hb hc
      generalize t * (2 * w) = x at *
      have w1 : w64 (((x + 2 * w : Nat) : Int) + ((2 * w : Nat) : Int)) = ((x + 2 * w + 2 * w : Nat) : Int) := add64 (by omega)
      have w2 : w64 ((x : Int) + (w : Int)) = ((x + w : Nat) : Int) := add64 (by omega)
      simp only [rd_slices_stableCmpFunc_Row_78_9, w0, w1, w2, g1]
      simp [-Int.natCast_add, -Int.natCast_mul, e]
    · refine ⟨f, t, lres_stop ?_, h2, by omega, .refl _ _ _ _, hb, hc⟩
      generalize t * (2 * w) = x at *
      simp [-Int.natCast_add, -Int.natCast_mul, rd_slices_stableCmpFunc_Row_78_9, e]

theorem st7 (N : Nat) (hN : N ≤ 4398046511104) (n : Nat) (hn : n ≤ N) : ∀ s w (f : Nat → Rw), n ≤ w + s → 0 < w → w < 8796093022208 → okF f → bls f w n 0 n →
    ∃ g, lres rd_slices_stableCmpFunc_Row_78_7 [.i n, .i w, .l (dC N f)] = some (0, [.l (dC N g)]) ∧ Mv N 0 n g f ∧ srt cC g 0 n := by
  intro s
  have fin : ∀ w (f : Nat → Rw), n ≤ w → 0 < w → bls f w n 0 n → ∃ g, lres rd_slices_stableCmpFunc_Row_78_7 [.i n, .i w, .l (dC N f)] = some (0, [.l (dC N g)]) ∧ Mv N 0 n g f ∧ srt cC g 0 n := by
    intro w f h1 h2 hb
    refine ⟨f, lres_stop ?_, .refl _ _ _ _, ?_⟩
    · simp [rd_slices_stableCmpFunc_Row_78_7, show ¬ (w < n) by omega]
    · by_cases e : 0 < n
      · exact srt_sub (hb 0 (by omega) (by omega)) (by omega) (by omega)
      · exact srt_one preC f (by omega)
  induction s with
  | zero => intro w f h1 h2 h3 hf hb; exact fin w f (by omega) h2 hb
  | succ s ih =>
    intro w f h1 h2 h3 hf hb
    by_cases e : w < n
    · obtain ⟨g, t', g1, g2, g3, g4, g5, g6⟩ := st9 N hN n hn w h2 e n 0 f (by omega) (by omega) hf (fun u u1 u2 => by omega) (by simpa using hb)
      have hfg := hf.mv g4
      rw [Nat.zero_mul, Nat.zero_add] at g1
      have p1 : (2 * t') * w = t' * (2 * w) := by rw [Nat.mul_comm 2 t', Nat.mul_assoc]
      have p2 : (2 * t' + 1) * w = t' * (2 * w) + w := by rw [Nat.add_mul, p1, Nat.one_mul]
      have w0 : w64 ((2 : Int) * (w : Int)) = ((2 * w : Nat) : Int) := by rw [w64_eq (by omega) (by omega)]; omega
      have w3 : w64 ((w : Int) * (2 : Int)) = ((2 * w : Nat) : Int) := by rw [w64_eq (by omega) (by omega)]; omega
      have w2 : w64 (((t' * (2 * w) : Nat) : Int) + (w : Int)) = ((t' * (2 * w) + w : Nat) : Int) := add64 (by omega)
      have nxt : ∃ k, (t' * (2 * w) + w < n → (m_slices_symMergeCmpFunc_Row [.i (t' * (2 * w) : Nat), .i (t' * (2 * w) + w : Nat), .i n, .l (dC N g)]).res = some (0, [.l (dC N k)])) ∧ (¬ t' * (2 * w) + w < n → k = g) ∧ Mv N (t' * (2 * w)) n k g ∧ srt cC k (t' * (2 * w)) n := by
        by_cases e2 : t' * (2 * w) + w < n
        · have s1 := g6 (2 * t') (by omega) (by omega)
          have s2 := g6 (2 * t' + 1) (by omega) (by omega)
          rw [p1] at s1
          rw [p2] at s2
          obtain ⟨k, k1, k2, k3⟩ := merge_res N hN (t' * (2 * w)) (t' * (2 * w) + w) n g (by omega) e2 hn hfg (srt_sub s1 (Nat.le_refl _) (by omega)) (srt_sub s2 (Nat.le_refl _) (by omega))
          exact ⟨k, fun _ => k1, fun h => absurd e2 h, k2, k3⟩
        · refine ⟨g, fun h => absurd h e2, fun _ => rfl, .refl _ _ _ _, ?_⟩
          by_cases e3 : t' * (2 * w) < n
          · have s1 := g6 (2 * t') (by omega) (by omega)
            rw [p1] at s1
            exact srt_sub s1 (Nat.le_refl _) (by omega)
          · exact srt_one preC g (by omega)
      obtain ⟨k, k1, k2, k3, k4⟩ := nxt
      have hb2 : bls k (2 * w) n 0 n := by
        intro u u1 u2
        by_cases e2 : u = t'
        · subst e2; exact srt_sub k4 (Nat.le_refl _) (by omega)
        · have hlt : u < t' + 1 := by
            have p3 : (t' + 1) * (2 * w) = t' * (2 * w) + 2 * w := by rw [Nat.add_mul, Nat.one_mul]
            exact Nat.lt_of_mul_lt_mul_right (a := 2 * w) (by omega)
          have hle : (u + 1) * (2 * w) ≤ t' * (2 * w) := Nat.mul_le_mul_right _ (by omega)
          rw [Nat.add_mul, Nat.one_mul] at hle
          exact srt_congr (g5 u u1 (by omega)) fun i i1 i2 => k3.out i (.inl (by omega))
      obtain ⟨l, l1, l2, l3⟩ := ih (2 * w) k (by omega) (by omega) (by omega) (hfg.mv k3) hb2
      refine ⟨l, ?_, l2.trans ((k3.wide (by omega) (Nat.le_refl _)).trans g4), l3⟩
      rw [← l1]
      refine lres_next ?_
      have z : ((0 : Nat) : Int) = 0 := rfl
      rw [z] at g1
      simp only [rd_slices_stableCmpFunc_Row_78_7, w0, g1]
      clear p1 p2 hb2 g5 g6 hb ih fin
      generalize t' * (2 * w) = x at *
      by_cases e2 : x + w < n
      · simp [-Int.natCast_add, -Int.natCast_mul, e, w2, w3, e2, k1 e2]
      · have := k2 e2
        subst this
        simp [-Int.natCast_add, -Int.natCast_mul, e, w2, w3, e2]
    · exact fin w f (by omega) h2 hb

theorem stable_res (N : Nat) (hN : N ≤ 4398046511104) (f : Nat → Rw) (hf : okF f) :
    ∃ g, (m_slices_stableCmpFunc_Row [.i N, .l (dC N f)]).res = some (0, [.l (dC N g)]) ∧ Mv N 0 N g f ∧ srt cC g 0 N := by
  obtain ⟨g, t', g1, g2, g3, g4, g5⟩ := st2 N hN N (Nat.le_refl _) N 0 f (by omega) (by omega) hf (fun u u1 u2 => by omega)
  rw [Nat.zero_mul, Nat.zero_add] at g1
  obtain ⟨k, k1, k2, k3⟩ := insertion_res N hN (t' * 20) N g g2 (Nat.le_refl _) (hf.mv g4)
  have hb : bls k 20 N 0 N := by
    intro u u1 u2
    by_cases e : u = t'
    · subst e; exact srt_sub k3 (Nat.le_refl _) (by omega)
    · exact srt_congr (g5 u u1 (by omega)) fun i i1 i2 => k2.out i (.inl (by omega))
  obtain ⟨l, l1, l2, l3⟩ := st7 N hN N (Nat.le_refl _) N 20 k (by omega) (by omega) (by omega) ((hf.mv g4).mv k2) hb
  refine ⟨l, ?_, l2.trans ((k2.wide (by omega) (Nat.le_refl _)).trans g4), l3⟩
  have z : ((0 : Nat) : Int) = 0 := rfl
  have z2 : ((20 : Nat) : Int) = 20 := rfl
  rw [z, z2] at g1
  rw [z2] at l1
  generalize t' * 20 = x at *
  simp only [m_slices_stableCmpFunc_Row, g1]
  simp [-Int.natCast_add, -Int.natCast_mul, k1, l1]

/-- what is sorted: it rises, and is what there was -/
theorem sort_res (b : List Rw) (hb : b.length ≤ 4398046511104 ∧ ∀ c ∈ b, okR c.row) : ∃ b' : List Rw, (m_slices_SortStableFunc_ [.l (b.map Rw.e)]).res = some (0, [.l (b'.map Rw.e)]) ∧ b'.Perm b ∧ b'.Pairwise fun x y => cmpR x.row y.row ≤ 0 := by
  have ht := tab_of b ⟨[]⟩
  have hf : okF (fun i => b.getD i ⟨[]⟩) := by
    intro k
    simp only [List.getD]
    cases h : b[k]? with
    | none => simp
    | some x => exact (hb.2 x (List.mem_of_getElem? h)).1
  obtain ⟨g, g1, g2, g3⟩ := stable_res b.length hb.1 (fun i => b.getD i ⟨[]⟩) hf
  refine ⟨tab b.length g, ?_, ?_, ?_⟩
  · have e : b.map Rw.e = dC b.length (fun i => b.getD i ⟨[]⟩) := by unfold dC; rw [ht]
    rw [e]
    simp only [m_slices_SortStableFunc_, dC_ln, g1]
    simp [dC]
  · have := g2.perm; rwa [ht] at this
  · rw [List.pairwise_iff_getElem]
    intro i j h1 h2 h3
    rw [tab_get, tab_get]
    exact g3 i j (by omega) (by omega) (by simpa using h2)

end Go.Proofs.YtccgmaeflmbmlaaDoor

set_option linter.unusedVariables false
set_option linter.unusedSimpArgs false
namespace Go.Proofs.YtccgmaeflmbmlaaDoor
open Go Go.Pu

def pickOk (r : List Val) (cs : List Int) : Bool := cs.all fun c => decide (0 ≤ c ∧ c < r.length)
def pickR (r : List Val) (cs : List Int) : List Val := cs.map fun c => r.getD c.toNat nul

theorem Pick_res (r : List Val) (cs : List Int) (hc : cs.length ≤ 1000000) : (m_row_Pick [.l (re r), .l (cs.map kE)]).res = some (0, [.b (pickOk r cs), .l (if pickOk r cs = true then re (pickR r cs) else [])]) := by
  have h := loop_all' cs (rd := rd_row_Pick_37_3) (fun i => [.l (re r), .l (cs.map kE), .i (cs.length : Nat), .i (i : Nat), .l (re (pickR r (cs.take i)))]) (fun c => decide (0 ≤ c ∧ c < r.length)) 0 1 [.b false] [.l (re (pickR r cs))]
    (by simp [rd_row_Pick_37_3]) (by
    intro i h
    have e1 : ((re (pickR r (cs.take i))).length + 1) * 32 ≤ 140737488355328 := by rw [re_len]; simp [pickR]; omega
    simp only [rd_row_Pick_37_3, rt_test, rt_stop, rt_next, el_map _ _ h, kE, cI_p, ln_map, ln_re, inR_cast, Int.ofNat_lt, h, decide_true, if_true, e1, w64_succ (i := i) (by omega)]
    by_cases c0 : cs[i] < 0
    · have : ¬ (0 ≤ cs[i] ∧ cs[i] < (r.length : Int)) := by omega
      simp [c0, this]
    · by_cases c1 : cs[i] ≥ (r.length : Int)
      · have : ¬ (0 ≤ cs[i] ∧ cs[i] < (r.length : Int)) := by omega
        simp only [c0, c1, this, decide_true, decide_false, Bool.false_eq_true, if_false, if_true]
      · have h3 : 0 ≤ cs[i] ∧ cs[i] < (r.length : Int) := by omega
        have hk : cs[i].toNat < r.length := by omega
        have e2 : inR cs[i] (r.length : Int) = true := inR_iff.2 h3
        have e3 : (el (re r) cs[i]) = Val.e r[cs[i].toNat] := by
          unfold el re
          rw [List.getD, List.getElem?_map, List.getElem?_eq_getElem hk]
          rfl
        have e4 : re (pickR r (cs.take (i + 1))) = re (pickR r (cs.take i)) ++ [[pI r[cs[i].toNat].k, pI r[cs[i].toNat].n, pS (bs r[cs[i].toNat].s)]] := by
          unfold pickR
          rw [take_one cs h, List.map_append, re_app]
          simp only [List.map_cons, List.map_nil, getD_at hk]
          rfl
        simp only [c0, c1, decide_false, Bool.false_eq_true, if_false, e2, if_true, e3, Val.e, cI_p, cI_s, cS_s, cS_p, e4, decide_eq_true h3])
  simp only [List.take_zero, Int.natCast_zero] at h
  rw [show re (pickR r []) = [] from rfl] at h
  unfold pickOk at *
  by_cases e : (cs.all fun c => decide (0 ≤ c ∧ c < (r.length : Int))) = true
  · rw [if_pos e] at h
    simp only [m_row_Pick, ln_map, h, ok_some', out_some, res_test, res_stop, uL_0, e, show ((0 : Nat) == 1) = false from rfl, Bool.false_eq_true, if_false, beq_self_eq_true, if_true]
  · rw [if_neg e] at h
    simp only [m_row_Pick, ln_map, h, ok_some', out_some, res_test, res_stop, uB_0, beq_self_eq_true, if_true, e, Bool.false_eq_true, if_false]

theorem fits_app {a b : List Val} {k1 k2 : List Int} {n1 n2 : List Bool} (h1 : fitsR a k1 n1 = true) (h2 : fitsR b k2 n2 = true) (hl : a.length + b.length ≤ 40) : fitsR (a ++ b) (k1 ++ k2) (n1 ++ n2) = true := by
  rw [fitsR_iff] at *
  obtain ⟨a1, a2, a3, a4⟩ := h1
  obtain ⟨b1, b2, b3, b4⟩ := h2
  rw [mayR_iff] at *
  refine ⟨⟨by simpa using hl, fun v hv => (List.mem_append.1 hv).elim (a1.2 v) (b1.2 v)⟩, by simp; omega, by simp; omega, fun i hi => ?_⟩
  simp only [List.length_append] at hi
  unfold fitAt at *
  by_cases h : i < a.length
  · have := a4 i h
    rw [getD_at h, getD_at (by omega : i < k1.length), getD_at (by omega : i < n1.length)] at this
    rw [getD_at (by simp; omega), getD_at (by simp; omega), getD_at (by simp; omega), List.getElem_append_left h, List.getElem_append_left (by omega : i < k1.length), List.getElem_append_left (by omega : i < n1.length)]
    exact this
  · have h' : i - a.length < b.length := by omega
    have := b4 _ h'
    rw [getD_at h', getD_at (by omega : i - a.length < k2.length), getD_at (by omega : i - a.length < n2.length)] at this
    rw [getD_at (by simp; omega), getD_at (by simp; omega), getD_at (by simp; omega), List.getElem_append_right (by omega), List.getElem_append_right (by omega : k1.length ≤ i), List.getElem_append_right (by omega : n1.length ≤ i)]
    simp only [← a2, ← a3]
    exact this

/-- the first so many numbers, from one on -/
def numsFrom (d : Nat) (n : Nat) : List Int := (List.range n).map fun i => ((d + i : Nat) : Int)
theorem nums_succ (d n : Nat) : numsFrom d (n + 1) = numsFrom d n ++ [((d + n : Nat) : Int)] := by
  unfold numsFrom; rw [List.range_succ, List.map_append]; rfl
theorem nums_len (d n : Nat) : (numsFrom d n).length = n := by simp [numsFrom]
theorem pick_nums (r : List Val) (d n : Nat) (h : d + n ≤ r.length) : pickOk r (numsFrom d n) = true ∧ pickR r (numsFrom d n) = (r.drop d).take n := by
  constructor
  · unfold pickOk numsFrom
    rw [List.all_eq_true]
    intro c hc
    obtain ⟨i, hi, rfl⟩ := List.mem_map.1 hc
    have := List.mem_range.1 hi
    rw [decide_eq_true_eq]; omega
  · apply List.ext_getElem
    · simp [pickR, nums_len]; omega
    · intro i h1 h2
      have hi : i < n := by simpa [pickR, nums_len] using h1
      simp only [pickR, numsFrom, List.getElem_map, List.getElem_range, Int.toNat_natCast, List.getElem_take, List.getElem_drop]
      rw [getD_at (by omega)]

theorem rowJoins_res (a b : List Val) (ha : okR a) (hb : okR b) (k1 k2 p1 p2 : List Int) (n1 n2 : List Bool) :
    (m_L04_RowJoins [.l (re a), .l (re b), .l (k1.map kE), .l (n1.map bE), .l (p1.map kE), .l (k2.map kE), .l (n2.map bE), .l (p2.map kE)]).res = some (0, [.b true]) := by
  by_cases g1 : (a.length : Int) > 20
  · simp only [m_L04_RowJoins, ln_re, decide_eq_true g1, res_test, res_stop, if_true]
  by_cases g2 : (b.length : Int) > 20
  · simp only [m_L04_RowJoins, ln_re, decide_eq_false g1, decide_eq_true g2, res_test, res_stop, if_true, Bool.false_eq_true, if_false]
  have hJ := Join_res a b (by omega) (by omega)
  have l1 := loop_acc (rd := rd_L04_RowJoins_10_7) a.length (fun i => [.l (re a), .l (re b), .i (i : Nat), .l (k1.map kE), .l (n1.map bE), .l (p1.map kE), .l (k2.map kE), .l (n2.map bE), .l (p2.map kE), .l (re (a ++ b)), .l ((numsFrom 0 i).map kE), .l []])
    (some (0, [.l (re a), .l (re b), .l (k1.map kE), .l (n1.map bE), .l (p1.map kE), .l (k2.map kE), .l (n2.map bE), .l (p2.map kE), .l (re (a ++ b)), .l ((numsFrom 0 a.length).map kE), .l []]))
    (lres_stop (by simp [rd_L04_RowJoins_10_7])) (by
    intro i h
    have e1 : (((numsFrom 0 i).map kE).length + 1) * 8 ≤ 140737488355328 := by rw [List.length_map, nums_len]; omega
    have e2 : (numsFrom 0 (i + 1)).map kE = (numsFrom 0 i).map kE ++ [[pI (i : Int)]] := by rw [nums_succ, List.map_append, Nat.zero_add]; rfl
    simp only [rd_L04_RowJoins_10_7, rt_test, rt_next, ln_re, Int.ofNat_lt, h, decide_true, if_true, e1, e2, w64_succ (i := i) (by omega)])
  have l2 := loop_acc (rd := rd_L04_RowJoins_10_11) b.length (fun i => [.l (re a), .l (re b), .i (i : Nat), .l (k1.map kE), .l (n1.map bE), .l (p1.map kE), .l (k2.map kE), .l (n2.map bE), .l (p2.map kE), .l (re (a ++ b)), .l ((numsFrom 0 a.length).map kE), .l ((numsFrom a.length i).map kE)])
    (some (0, [.l (re a), .l (re b), .l (k1.map kE), .l (n1.map bE), .l (p1.map kE), .l (k2.map kE), .l (n2.map bE), .l (p2.map kE), .l (re (a ++ b)), .l ((numsFrom 0 a.length).map kE), .l ((numsFrom a.length b.length).map kE)]))
    (lres_stop (by simp [rd_L04_RowJoins_10_11])) (by
    intro i h
    have e1 : (((numsFrom a.length i).map kE).length + 1) * 8 ≤ 140737488355328 := by rw [List.length_map, nums_len]; omega
    have e0 : w64 ((a.length : Int) + (i : Int)) = ((a.length + i : Nat) : Int) := by rw [w64_eq (by omega) (by omega)]; omega
    have e2 : (numsFrom a.length (i + 1)).map kE = (numsFrom a.length i).map kE ++ [[pI ((a.length + i : Nat) : Int)]] := by rw [nums_succ, List.map_append]; rfl
    simp only [rd_L04_RowJoins_10_11, rt_test, rt_next, ln_re, Int.ofNat_lt, h, decide_true, if_true, e0, e1, e2, w64_succ (i := i) (by omega)])
  simp only [Int.natCast_zero] at l1 l2
  rw [show (numsFrom 0 0).map kE = [] from rfl] at l1
  rw [show (numsFrom a.length 0).map kE = [] from rfl] at l2
  obtain ⟨q1, q2⟩ := pick_nums (a ++ b) 0 a.length (by simp)
  obtain ⟨q3, q4⟩ := pick_nums (a ++ b) a.length b.length (by simp)
  rw [List.drop_zero, List.take_left] at q2
  rw [List.drop_left, List.take_length] at q4
  have P1 := Pick_res (a ++ b) (numsFrom 0 a.length) (by rw [nums_len]; omega)
  have P2 := Pick_res (a ++ b) (numsFrom a.length b.length) (by rw [nums_len]; omega)
  rw [q1, if_pos rfl, q2] at P1
  rw [q3, if_pos rfl, q4] at P2
  have S1 := R02_Same_res a a ha.1
  have S2 := R02_Same_res b b hb.1
  have F1 := fits_res a k1 n1 ha
  have F2 := fits_res b k2 n2 hb
  have hab : okR (a ++ b) := ⟨by simp; omega, fun v hv => (List.mem_append.1 hv).elim (ha.2 v) (hb.2 v)⟩
  have F3 := fits_res (a ++ b) (k1 ++ k2) (n1 ++ n2) hab
  rw [List.map_append, List.map_append] at F3
  have w1 : w64 ((a.length : Int) + (b.length : Int)) = (((a ++ b).length : Nat) : Int) := by rw [w64_eq (by omega) (by omega)]; simp
  cases f1 : fitsR a k1 n1 with
  | false => simp only [m_L04_RowJoins, ln_re, decide_eq_false g1, decide_eq_false g2, Bool.false_eq_true, if_false, res_test, res_stop, hJ, l1, l2, P1, P2, S1, S2, F1, f1, ok_some', out_some, uL_0, uL_s, uB_0, beq_self_eq_true, if_true, decide_true, Bool.not_true, w1, bne_self_eq_false, Bool.not_false]
  | true =>
    cases f2 : fitsR b k2 n2 with
    | false => simp only [m_L04_RowJoins, ln_re, decide_eq_false g1, decide_eq_false g2, Bool.false_eq_true, if_false, res_test, res_stop, hJ, l1, l2, P1, P2, S1, S2, F1, F2, f1, f2, ok_some', out_some, uL_0, uL_s, uB_0, beq_self_eq_true, if_true, decide_true, Bool.not_true, w1, bne_self_eq_false, Bool.not_false]
    | true =>
      have f3 := fits_app f1 f2 (by omega)
      obtain ⟨m1, a1, a2, _⟩ := fitsR_iff.1 f1
      obtain ⟨m2, b1, b2, _⟩ := fitsR_iff.1 f2
      have d1 : (0 + (k1.map kE).length) * 8 ≤ 140737488355328 := by rw [List.length_map]; omega
      have d2 : ((k1.map kE).length + (k2.map kE).length) * 8 ≤ 140737488355328 := by rw [List.length_map, List.length_map]; omega
      have d3 : (0 + (n1.map bE).length) * 1 ≤ 140737488355328 := by rw [List.length_map]; omega
      have d4 : ((n1.map bE).length + (n2.map bE).length) * 1 ≤ 140737488355328 := by rw [List.length_map, List.length_map]; omega
      simp only [m_L04_RowJoins, ln_re, decide_eq_false g1, decide_eq_false g2, Bool.false_eq_true, if_false, res_test, res_stop, hJ, l1, l2, P1, P2, S1, S2, F1, F2, F3, f1, f2, f3, ok_some', out_some, uL_0, uL_s, uB_0, beq_self_eq_true, if_true, decide_true, Bool.not_true, w1, bne_self_eq_false, List.nil_append, d1, d2, d3, d4]

/-! sorted rows -/

theorem sorted_unique : ∀ {s t : List (List Val)}, s.Perm t → s.Pairwise (fun x y => cmpR x y ≤ 0) → t.Pairwise (fun x y => cmpR x y ≤ 0) → s = t
  | [], t, hp, _, _ => by rw [List.Perm.eq_nil hp.symm]
  | x :: s, [], hp, _, _ => by have := hp.length_eq; simp at this
  | x :: s, y :: t, hp, hs, ht => by
    have hxy : x = y := by
      have h1 : x ∈ y :: t := hp.mem_iff.1 (List.mem_cons_self ..)
      have h2 : y ∈ x :: s := hp.mem_iff.2 (List.mem_cons_self ..)
      rcases List.mem_cons.1 h1 with e | h1
      · exact e
      · rcases List.mem_cons.1 h2 with e | h2
        · exact e.symm
        · have a1 := (List.pairwise_cons.1 ht).1 x h1
          have a2 := (List.pairwise_cons.1 hs).1 y h2
          have a3 := cR.anti x y
          exact (cR.zero x y).1 (by omega)
    subst hxy
    rw [sorted_unique (List.Perm.cons_inv hp) (List.pairwise_cons.1 hs).2 (List.pairwise_cons.1 ht).2]

theorem cL_reR (r : List Val) : cL (reR r) 0 = re r := rfl
theorem set_reR (x : List (List PV)) : setCells [PV.lst 25 []] 0 [PV.lst 25 x] = [PV.lst 25 x] := rfl

def okL2 (l : List (List Val)) : Prop := l.length ≤ 1000000 ∧ ∀ r ∈ l, okR r

theorem Sort_res (l : List (List Val)) (hl : okL2 l) : ∃ s : List (List Val), (m_row_Sort [.l (l.map reR)]).res = some (0, [.l (s.map reR)]) ∧ s.Perm l ∧ s.Pairwise fun x y => cmpR x y ≤ 0 := by
  have hn := hl.1
  have h := loop_acc (rd := rd_row_Sort_32_3) l.length (fun i => [.l (l.map reR), .i (l.length : Nat), .i (i : Nat), .l ((l.take i).map reR ++ List.replicate (l.length - i) [PV.lst 25 []])]) (some (0, [.l (l.map reR)]))
    (lres_stop (by simp [rd_row_Sort_32_3])) (by
    intro i h
    have hr := (hl.2 _ (List.getElem_mem h)).1
    have e1 : (0 + (re l[i]).length) * 32 ≤ 140737488355328 := by rw [re_len]; omega
    have e2 : ((l.take i).map reR ++ List.replicate (l.length - i) [PV.lst 25 []]).length = l.length := by simp; omega
    have e3 : ln ((l.take i).map reR ++ List.replicate (l.length - i) [PV.lst 25 []]) = (l.length : Int) := by unfold ln; rw [e2]
    have e4 : List.replicate (l.length - i) [PV.lst 25 []] = [PV.lst 25 []] :: List.replicate (l.length - (i + 1)) [PV.lst 25 []] := by
      rw [show l.length - i = (l.length - (i + 1)) + 1 by omega, List.replicate_succ]
    have e5 : ((l.take i).map reR).length = i := by simp; omega
    have e6 : el ((l.take i).map reR ++ List.replicate (l.length - i) [PV.lst 25 []]) (i : Int) = [PV.lst 25 []] := by
      unfold el
      rw [Int.toNat_natCast, List.getD, List.getElem?_append_right (by omega), e5, Nat.sub_self, e4]
      rfl
    have e7 : ((l.take i).map reR ++ List.replicate (l.length - i) [PV.lst 25 []]).set i [PV.lst 25 (re l[i])] = (l.take (i + 1)).map reR ++ List.replicate (l.length - (i + 1)) [PV.lst 25 []] := by
      rw [List.set_append_right _ _ (by omega), e5, Nat.sub_self, e4, List.set_cons_zero, take_one l h, List.map_append]
      simp [reR]
    simp only [rd_row_Sort_32_3, rt_test, rt_next, el_map _ _ h, cL_reR, ln_map, inR_cast, Int.ofNat_lt, h, decide_true, if_true, e1, e2, e3, Int.toNat_natCast, e6, set_reR, e7, w64_succ (i := i) (by omega)])
  have e0 : Int.toNat (l.length : Int) = l.length := Int.toNat_natCast _
  simp only [Int.natCast_zero, List.take_zero, List.map_nil, List.nil_append, Nat.sub_zero] at h
  obtain ⟨s, s1, s2, s3⟩ := sort_res (l.map Rw.mk) ⟨by simp; omega, fun c hc => by
    obtain ⟨r, hr, rfl⟩ := List.mem_map.1 hc
    exact hl.2 r hr⟩
  have em : ∀ x : List (List Val), (x.map Rw.mk).map Rw.e = x.map reR := fun x => by rw [List.map_map]; rfl
  have es : s.map Rw.e = (s.map Rw.row).map reR := by rw [List.map_map]; rfl
  rw [em, es] at s1
  refine ⟨s.map Rw.row, ?_, ?_, ?_⟩
  · have d : decide ((0 : Int) ≤ (l.length : Int) ∧ (l.length : Int) ≤ (l.length : Int) ∧ (24 : Int) * (l.length : Int) ≤ 140737488355328 ∧ (l.length : Int) ≤ 140737488355328) = true := by rw [decide_eq_true_eq]; omega
    simp only [m_row_Sort, ln_map, d, e0, h, s1, ok_some', out_some, res_test, res_stop, uL_0, beq_self_eq_true, if_true]
  · have := s2.map Rw.row
    rw [List.map_map] at this
    have e : (Rw.row ∘ Rw.mk) = id := rfl
    rw [e, List.map_id] at this
    exact this
  · rw [List.pairwise_map]; exact s3

theorem R04_Same_res (l m : List (List Val)) (hl : okL2 l) : (m_R04_Same [.l (l.map reR), .l (m.map reR)]).res = some (0, [.b (decide (l = m))]) := by
  by_cases e : l.length = m.length
  · have h := loop_ix l.length (rd := rd_R04_Same_35_4) (fun i => [.l (l.map reR), .l (m.map reR), .i (i : Nat)]) (fun i => decide (l.getD i [] = m.getD i [])) 0 1 (fun _ => [.b false]) []
      (by simp [rd_R04_Same_35_4]) (by
      intro i h _
      have h2 : i < m.length := by omega
      have hn := hl.1
      have hc := R02_Compare_res l[i] m[i] (hl.2 _ (List.getElem_mem h)).1
      rw [getD_at h, getD_at h2]
      simp only [rd_R04_Same_35_4, rt_test, rt_stop, rt_next, el_map _ _ h, el_map _ _ h2, cL_reR, ln_map, inR_cast, Int.ofNat_lt, h, h2, decide_true, if_true, hc, ok_some', out_some, uI_0, beq_self_eq_true, w64_succ (i := i) (by omega)]
      by_cases e : l[i] = m[i]
      · have := (cR.zero l[i] m[i]).2 e
        simp [e, this]
        rw [← e] at this ⊢
        simp [this]
      · have : ¬ cmpR l[i] m[i] = 0 := fun h => e ((cR.zero _ _).1 h)
        simp [e, this])
    simp only [Int.natCast_zero] at h
    have e1 : ((l.length : Int) != (m.length : Int)) = false := by simp [e]
    rcases h with ⟨h1, h⟩ | ⟨i, hi, h1, _, h⟩
    · have : l = m := by
        apply List.ext_getElem e
        intro i a b
        have := h1 i a
        rw [decide_eq_true_eq, getD_at a, getD_at b] at this
        exact this
      simp only [m_R04_Same, ln_map, e1, h, ok_some', out_some, res_test, res_stop, show ((0 : Nat) == 1) = false from rfl, Bool.false_eq_true, if_false, beq_self_eq_true, if_true]
      simp [this]
    · have : ¬ l = m := fun hh => by rw [hh, decide_eq_false_iff_not] at h1; exact h1 rfl
      simp only [m_R04_Same, ln_map, e1, h, ok_some', out_some, res_test, res_stop, uB_0, Bool.false_eq_true, if_false, beq_self_eq_true, if_true]
      simp [this]
  · have e1 : ((l.length : Int) != (m.length : Int)) = true := by simp; omega
    have : ¬ l = m := fun hh => e (by rw [hh])
    simp only [m_R04_Same, ln_map, e1, res_test, res_stop, if_true]
    simp [this]

theorem count_res (l : List (List Val)) (hl : okL2 l) (r : List Val) : (m_L04_count [.l (l.map reR), .l (re r)]).res = some (0, [.i (l.count r : Nat)]) := by
  have hn := hl.1
  have h := loop_acc (rd := rd_L04_count_34_3) l.length (fun i => [.l (l.map reR), .l (re r), .i ((l.take i).count r : Nat), .i (i : Nat)]) (some (0, [.i (l.count r : Nat)]))
    (lres_stop (by simp [rd_L04_count_34_3])) (by
    intro i h
    have hc := R02_Compare_res l[i] r (hl.2 _ (List.getElem_mem h)).1
    have e1 : (l.take (i + 1)).count r = (l.take i).count r + (if l[i] = r then 1 else 0) := by
      rw [take_one l h, List.count_append]
      congr 1
      by_cases e : l[i] = r <;> simp [e]
    have e2 : (l.take i).count r ≤ i := Nat.le_trans List.count_le_length (by simp; omega)
    simp only [rd_L04_count_34_3, rt_test, rt_next, el_map _ _ h, cL_reR, ln_map, inR_cast, Int.ofNat_lt, h, decide_true, if_true, hc, ok_some', out_some, uI_0, beq_self_eq_true, w64_succ (i := i) (by omega), w64_succ (i := (l.take i).count r) (by omega)]
    rw [e1]
    by_cases e : l[i] = r
    · have := (cR.zero l[i] r).2 e
      simp [e, this]
      rw [e] at this
      simp [this]
    · have : ¬ cmpR l[i] r = 0 := fun h => e ((cR.zero _ _).1 h)
      simp [e, this])
  simp only [List.take_zero, List.count_nil, Int.natCast_zero] at h
  simp only [m_L04_count, h, ok_some', out_some, res_test, res_stop, uI_0, beq_self_eq_true, if_true]

end Go.Proofs.YtccgmaeflmbmlaaDoor

set_option linter.unusedVariables false
set_option linter.unusedSimpArgs false
namespace Go.Proofs.YtccgmaeflmbmlaaDoor
open Go Go.Pu

def shortL (l : List (List Val)) : Bool := l.all shortR && decide (l.length ≤ 100)

theorem R04_Short_res (l : List (List Val)) (h0 : l.length ≤ 140737488355328) (hl : ∀ r ∈ l, okR r) : (m_R04_Short [.l (l.map reR)]).res = some (0, [.b (shortL l)]) := by
  have h := loop_all' l (rd := rd_R04_Short_31_2) (fun i => [.l (l.map reR), .i (i : Nat)]) shortR 0 1 [.b false] [.l (l.map reR)]
    (by simp [rd_R04_Short_31_2]) (by
    intro i h
    have hs := R02_Short_res (hl _ (List.getElem_mem h))
    simp only [rd_R04_Short_31_2, rt_test, rt_stop, rt_next, el_map _ _ h, cL_reR, ln_map, inR_cast, Int.ofNat_lt, h, decide_true, if_true, hs, ok_some', out_some, uB_0, beq_self_eq_true, w64_succ (i := i) (by omega)]
    cases shortR l[i] <;> rfl)
  simp only [Int.natCast_zero] at h
  unfold shortL
  by_cases e : l.all shortR = true
  · rw [if_pos e] at h
    have e2 : decide ((l.length : Int) ≤ 100) = decide (l.length ≤ 100) := by rw [decide_eq_decide]; omega
    simp only [m_R04_Short, h, ok_some', out_some, res_test, res_stop, uL_0, ln_map, e, e2, show ((0 : Nat) == 1) = false from rfl, Bool.false_eq_true, if_false, beq_self_eq_true, if_true, Bool.true_and]
  · rw [if_neg e] at h
    have e : l.all shortR = false := by simpa using e
    simp only [m_R04_Short, h, ok_some', out_some, res_test, res_stop, uB_0, beq_self_eq_true, if_true, e, Bool.false_and]

theorem rowSorts_res (l : List (List Val)) (h0 : l.length ≤ 140737488355328) (hl : ∀ r ∈ l, okR r) (at_ : Int) : (m_L04_RowSorts [.l (l.map reR), .i at_]).res = some (0, [.b true]) := by
  have hS := R04_Short_res l h0 hl
  cases c0 : shortL l with
  | false => simp only [m_L04_RowSorts, hS, c0, ok_some', out_some, res_test, res_stop, uB_0, beq_self_eq_true, if_true, Bool.not_false]
  | true =>
    have hlen : l.length ≤ 100 := by
      unfold shortL at c0
      rw [Bool.and_eq_true, decide_eq_true_eq] at c0
      exact c0.2
    have ol : okL2 l := ⟨by omega, hl⟩
    obtain ⟨s, s1, s2, s3⟩ := Sort_res l ol
    have sl : s.length = l.length := s2.length_eq
    have os : okL2 s := ⟨by omega, fun r hr => hl r (s2.mem_iff.1 hr)⟩
    have hloop := loop_acc (rd := rd_L04_RowSorts_9_7) s.length (fun i => [.l (l.map reR), .i at_, .i (i : Nat), .l (s.map reR)]) (some (1, [.l (l.map reR), .i at_, .l (s.map reR)]))
      (lres_stop (by simp [rd_L04_RowSorts_9_7])) (by
      intro i h
      have k1 := count_res s os s[i]
      have k2 := count_res l ol s[i]
      rw [s2.count_eq] at k1
      have hlm : i < (s.map reR).length := by simpa using h
      by_cases c : i = 0
      · subst c
        have g : ¬ ((0 : Nat) : Int) > 0 := by omega
        simp only [rd_L04_RowSorts_9_7, rt_test, rt_next, el_map _ _ h, cL_reR, ln_map, inR_cast, Int.ofNat_lt, h, hlm, decide_true, if_true, g, decide_false, Bool.false_eq_true, if_false, k1, k2, ok_some', out_some, uI_0, beq_self_eq_true, bne_self_eq_false, Int.toNat_natCast, w64_succ (i := 0) (by omega)]
      · have g : ((i : Nat) : Int) > 0 := by omega
        have e1 : w64 ((i : Int) - 1) = ((i - 1 : Nat) : Int) := by rw [w64_eq (by omega) (by omega)]; omega
        have h' : i - 1 < s.length := by omega
        have hlm' : i - 1 < (s.map reR).length := by simpa using h'
        have k0 := R02_Compare_res s[i - 1] s[i] (os.2 _ (List.getElem_mem h')).1
        have k3 : ¬ cmpR s[i - 1] s[i] > 0 := by
          have := List.pairwise_iff_getElem.1 s3 (i - 1) i h' h (by omega)
          omega
        simp only [rd_L04_RowSorts_9_7, rt_test, rt_next, e1, el_map _ _ h, el_map _ _ h', cL_reR, ln_map, inR_cast, Int.ofNat_lt, h, h', hlm, hlm', decide_true, if_true, g, k0, k3, decide_false, Bool.false_eq_true, if_false, k1, k2, ok_some', out_some, uI_0, beq_self_eq_true, bne_self_eq_false, Int.toNat_natCast, w64_succ (i := i) (by omega)])
    simp only [Int.natCast_zero] at hloop
    have e1 : ((s.length : Int) != (l.length : Int)) = false := by simp [sl]
    by_cases c1 : at_ < 0
    · simp only [m_L04_RowSorts, hS, c0, s1, hloop, ok_some', out_some, res_test, res_stop, uB_0, uL_0, uL_s, uI_0, uI_s, ln_map, e1, beq_self_eq_true, if_true, Bool.not_true, Bool.false_eq_true, if_false, show ((0 : Nat) == 1) = false from rfl, decide_eq_true c1]
    · by_cases c2 : at_ ≥ (l.length : Int)
      · simp only [m_L04_RowSorts, hS, c0, s1, hloop, ok_some', out_some, res_test, res_stop, uB_0, uL_0, uL_s, uI_0, uI_s, ln_map, e1, beq_self_eq_true, if_true, Bool.not_true, Bool.false_eq_true, if_false, show ((0 : Nat) == 1) = false from rfl, decide_eq_false c1, decide_eq_true c2]
      · obtain ⟨k, rfl⟩ : ∃ k : Nat, at_ = k := ⟨at_.toNat, by omega⟩
        have hk : k < l.length := by omega
        have t1 : ((l.map reR).drop (Int.toNat (k : Int))).take (Int.toNat (l.length : Int) - Int.toNat (k : Int)) = (l.drop k).map reR := by
          rw [Int.toNat_natCast, Int.toNat_natCast, List.take_of_length_le (by simp), List.map_drop]
        have t2 : ((l.map reR).drop 0).take (Int.toNat (k : Int) - 0) = (l.take k).map reR := by
          rw [List.drop_zero, Int.toNat_natCast, Nat.sub_zero, List.map_take]
        have hp : (l.drop k ++ l.take k).Perm l := by
          have := List.perm_append_comm (l₁ := l.drop k) (l₂ := l.take k)
          rwa [List.take_append_drop] at this
        have om : okL2 (l.drop k ++ l.take k) := ⟨by rw [hp.length_eq]; omega, fun r hr => hl r (hp.mem_iff.1 hr)⟩
        obtain ⟨t, r1, r2, r3⟩ := Sort_res _ om
        have heq : t = s := sorted_unique (r2.trans (hp.trans s2.symm)) r3 s3
        subst heq
        rw [List.map_append] at r1
        have k4 := R04_Same_res t t os
        have d1 : decide ((0 : Int) ≤ (k : Int) ∧ (k : Int) ≤ (l.length : Int) ∧ (l.length : Int) ≤ (l.length : Int)) = true := by rw [decide_eq_true_eq]; omega
        have d2 : decide ((0 + ((l.drop k).map reR).length) * 24 ≤ 140737488355328) = true := by rw [decide_eq_true_eq]; simp; omega
        have d3 : decide ((0 : Int) ≤ 0 ∧ (0 : Int) ≤ (k : Int) ∧ (k : Int) ≤ (l.length : Int)) = true := by rw [decide_eq_true_eq]; omega
        have d4 : decide ((((l.drop k).map reR).length + ((l.take k).map reR).length) * 24 ≤ 140737488355328) = true := by rw [decide_eq_true_eq]; simp; omega
        simp only [m_L04_RowSorts, hS, c0, s1, hloop, ok_some', out_some, res_test, res_stop, uB_0, uL_0, uL_s, uI_0, uI_s, ln_map, e1, beq_self_eq_true, if_true, Bool.not_true, Bool.false_eq_true, if_false, show ((0 : Nat) == 1) = false from rfl, decide_eq_false c1, decide_eq_false c2, t1, t2, d1, d2, d3, d4, List.nil_append, r1, k4, decide_true]

end Go.Proofs.YtccgmaeflmbmlaaDoor

set_option linter.unusedVariables false
set_option linter.unusedSimpArgs false
namespace Go.Proofs.YtccgmaeflmbmlaaDoor
open Go Go.Pu

/-- a list of some cells, each of its kind -/
theorem gd_listB {α : Type} {t : TypeId} {ks : List Kd} {b : Nat} {f : α → List PV} {p : α → Prop} (hk : kds Tryd.prog t = ks) (hb : Tryd.prog.bytesOf t = b) (hb1 : 1 ≤ b)
    (hc : ∀ e, Gds Tryd.prog ks e → ∃ a, e = f a ∧ p a) {x : PV} (h : Gd Tryd.prog (.sl t) x) : ∃ l : List α, x = .lst t (l.map f) ∧ l.length ≤ 140737488355328 ∧ ∀ a ∈ l, p a := by
  obtain ⟨es, rfl, h1, h2⟩ := gd_lst h
  rw [hk] at h2
  rw [hb] at h1
  obtain ⟨l, rfl, hl⟩ := lst_map fun e he => hc e (h2 e he)
  refine ⟨l, rfl, ?_, hl⟩
  rw [List.length_map] at h1
  have : l.length * 1 ≤ l.length * b := Nat.mul_le_mul_left _ hb1
  unfold big at h1
  omega

theorem gd_ints {x : PV} (h : Gd Tryd.prog (.sl 3) x) : ∃ l : List Int, x = .lst 3 (l.map kE) := by
  obtain ⟨l, e, _, _⟩ := gd_listB (f := kE) (p := fun _ => True) (ks := [.int .i64]) (b := 8) (by kernel_rfl) (by kernel_rfl) (by decide) (fun e he => by
    obtain ⟨hl, hg⟩ := gds_cells he
    match e, hl, hg with
    | [a], _, hg =>
      obtain ⟨n, rfl, hn⟩ := gd_int (hg 0 (by decide))
      exact ⟨n, rfl, trivial⟩) h
  exact ⟨l, e⟩

theorem gd_bools {x : PV} (h : Gd Tryd.prog (.sl 4) x) : ∃ l : List Bool, x = .lst 4 (l.map bE) := by
  obtain ⟨l, e, _, _⟩ := gd_listB (f := bE) (p := fun _ => True) (ks := [.bool]) (b := 1) (by kernel_rfl) (by kernel_rfl) (by decide) (fun e he => by
    obtain ⟨hl, hg⟩ := gds_cells he
    match e, hl, hg with
    | [a], _, hg =>
      have := hg 0 (by decide)
      simp only [List.getD, List.getElem?_cons_zero, Option.getD_some] at this
      cases this with
      | bool b => exact ⟨b, rfl, trivial⟩) h
  exact ⟨l, e⟩

set_option maxRecDepth 100000 in
theorem arg_rows {x : PV} (h : ArgGd Tryd.prog 42 x) : ∃ l : List (List Val), x = .lst 46 (l.map reR) ∧ l.length ≤ 140737488355328 ∧ ∀ r ∈ l, okR r := by
  have e : ArgGd Tryd.prog 42 x = Gd Tryd.prog (.sl 46) x := by kernel_rfl
  rw [e] at h
  exact gd_listB (f := reR) (p := okR) (ks := [.sl 25]) (b := 24) (by kernel_rfl) (by kernel_rfl) (by decide) (fun e he => by
    obtain ⟨hl, hg⟩ := gds_cells he
    match e, hl, hg with
    | [a], _, hg =>
      obtain ⟨r, rfl, hr⟩ := gd_row (hg 0 (by decide))
      exact ⟨r, rfl, hr⟩) h

set_option maxRecDepth 100000 in
theorem arg_row {x : PV} (h : ArgGd Tryd.prog 46 x) : ∃ r : List Val, x = .lst 25 (re r) ∧ okR r := by
  have e : ArgGd Tryd.prog 46 x = Gd Tryd.prog (.sl 25) x := by kernel_rfl
  rw [e] at h
  exact gd_row h

set_option maxRecDepth 100000 in
theorem arg_two {x : PV} (h : ArgGd Tryd.prog 50 x) : ∃ a b : List Val, x = .agg [.lst 25 (re a), .lst 25 (re b)] ∧ okR a ∧ okR b := by
  have e : ArgGd Tryd.prog 50 x = ∃ xs, x = .agg xs ∧ Gds Tryd.prog [.sl 25, .sl 25] xs := by kernel_rfl
  rw [e] at h
  obtain ⟨xs, rfl, hg⟩ := h
  obtain ⟨hl, hg⟩ := gds_cells hg
  match xs, hl, hg with
  | [a, b], _, hg =>
    obtain ⟨r, rfl, hr⟩ := gd_row (hg 0 (by decide))
    obtain ⟨s, rfl, hs⟩ := gd_row (hg 1 (by decide))
    exact ⟨r, s, rfl, hr, hs⟩

set_option maxRecDepth 100000 in
theorem arg_cols {x : PV} (h : ArgGd Tryd.prog 54 x) : ∃ (ks : List Int) (ns : List Bool) (ps : List Int), x = .agg [.lst 3 (ks.map kE), .lst 4 (ns.map bE), .lst 3 (ps.map kE)] := by
  have e : ArgGd Tryd.prog 54 x = ∃ xs, x = .agg xs ∧ Gds Tryd.prog [.sl 3, .sl 4, .sl 3] xs := by kernel_rfl
  rw [e] at h
  obtain ⟨xs, rfl, hg⟩ := h
  obtain ⟨hl, hg⟩ := gds_cells hg
  match xs, hl, hg with
  | [a, b, c], _, hg =>
    obtain ⟨k, rfl⟩ := gd_ints (hg 0 (by decide))
    obtain ⟨n, rfl⟩ := gd_bools (hg 1 (by decide))
    obtain ⟨p, rfl⟩ := gd_ints (hg 2 (by decide))
    exact ⟨k, n, p, rfl⟩

end Go.Proofs.YtccgmaeflmbmlaaDoor
