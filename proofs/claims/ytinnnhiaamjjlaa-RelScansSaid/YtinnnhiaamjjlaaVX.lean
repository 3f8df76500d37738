/- Texts of this seat, one behind the other. -/
import Derived.Test.YtinnnhiaamjjlaaKX
import Derived.Test.YtinnnhiaamjjlaaTC
import Derived.Test.YtinnnhiaamjjlaaGX
import Derived.Test.YtinnnhiaamjjlaaSE
import Derived.SizedLaws
import Derived.Lib.ItoaNum
import Derived.Lib.Replace
import Derived.Lib.Join
import Derived.Test.YtinnnhiaamjjlaaTF
set_option linter.unusedVariables false
set_option linter.unusedSimpArgs false
namespace Go.Proofs.Ytinnnhiaamjjlaa
open Go Go.Pu

structure Val where
  k : Int
  n : Int
  s : List UInt8
  deriving DecidableEq

instance : Inhabited Val := ⟨⟨0, 0, []⟩⟩

def Val.e (v : Val) : List PV := [pI v.k, pI v.n, pS (bs v.s)]
def re (r : List Val) : List (List PV) := r.map Val.e

@[simp] theorem ln_re (r : List Val) : ln (re r) = r.length := ln_map _ _
theorem el_re (r : List Val) {i : Nat} (h : i < r.length) : el (re r) i = Val.e r[i] := el_map _ _ h

/-! the order of values, and of rows -/

def cmpB (a b : UInt8) : Int := Cmp.cmpI a.toNat b.toNat

theorem bytes_lst : ∀ a b : List UInt8, Lib.compareBytes a b = Cmp.lstC cmpB a b
  | [], [] => rfl
  | [], _ :: _ => rfl
  | _ :: _, [] => rfl
  | a :: xs, b :: ys => by
    simp only [Lib.compareBytes, Cmp.lstC, bytes_lst xs ys]
    have h : ∀ x y : UInt8, x < y ↔ (x.toNat : Int) < y.toNat := fun x y => by rw [UInt8.lt_iff_toNat_lt]; omega
    simp only [cmpB, Cmp.cmpI, Cmp.thn, h]
    (repeat' split) <;> first | rfl | (exfalso; omega) | simp_all

theorem cmpBytes : Cmp Lib.compareBytes := by
  have h1 : Cmp cmpB := Cmp.int.pull (fun x : UInt8 => (x.toNat : Int)) fun a b h => UInt8.toNat_inj.1 (by exact_mod_cast h)
  have h2 := h1.list
  have : Lib.compareBytes = Cmp.lstC cmpB := by funext a b; exact bytes_lst a b
  rw [this]; exact h2

def cmpV (a b : Val) : Int := Cmp.thn (Cmp.cmpI a.k b.k) (Cmp.thn (Cmp.cmpI a.n b.n) (Lib.compareBytes a.s b.s))

theorem cV : Cmp cmpV :=
  (Cmp.int.both (Cmp.int.both cmpBytes)).pull (fun v : Val => (v.k, v.n, v.s)) fun a b h => by
    obtain ⟨_, _, _⟩ := a; obtain ⟨_, _, _⟩ := b; simp only [Prod.mk.injEq] at h; obtain ⟨rfl, rfl, rfl⟩ := h; rfl

def cmpR : List Val → List Val → Int := Cmp.lstC cmpV
theorem cR : Cmp cmpR := cV.list

/-- may a value be? a row? -/
def mayV (v : Val) : Bool :=
  if v.k = 0 then v.n == 0 && v.s == [] else if v.k = 1 then (v.n == 0 || v.n == 1) && v.s == [] else if v.k = 2 then v.s == [] else v.k == 3 && v.n == 0 && decide (v.s.length ≤ 1000)
def mayR (r : List Val) : Bool := decide (r.length ≤ 40) && r.all mayV

/-! what a law is handed -/

def big : Nat := 140737488355328

theorem lst_map {α : Type} {f : α → List PV} {p : α → Prop} : ∀ {es : List (List PV)}, (∀ e ∈ es, ∃ a, e = f a ∧ p a) → ∃ l : List α, es = l.map f ∧ ∀ a ∈ l, p a
  | [], _ => ⟨[], rfl, fun _ h => by cases h⟩
  | e :: es, h => by
    obtain ⟨a, rfl, ha⟩ := h e (by simp)
    obtain ⟨l, rfl, hl⟩ := lst_map (es := es) fun e he => h e (by simp [he])
    exact ⟨a :: l, rfl, List.forall_mem_cons.2 ⟨ha, hl⟩⟩

theorem gd_int {P : Program} {x : PV} (h : Gd P (.int .i64) x) : ∃ n, x = pI n ∧ -9223372036854775808 ≤ n ∧ n < 9223372036854775808 := by
  cases h with
  | int _ n hn =>
    refine ⟨n, rfl, ?_⟩
    simp only [Lit.wf, IntKind.min, IntKind.max, IntKind.bits, IntKind.signed, Bool.and_eq_true, decide_eq_true_eq] at hn
    simp at hn
    omega

theorem gd_str {P : Program} {x : PV} (h : Gd P .str x) : ∃ s : List UInt8, x = pS (bs s) ∧ s.length ≤ big := by
  cases h with
  | str s hs => exact ⟨s.data.toList, rfl, Nat.le_trans (by rw [Array.length_toList]; exact hs) (by decide)⟩

theorem gd_lst {P : Program} {t : TypeId} {x : PV} (h : Gd P (.sl t) x) : ∃ es, x = .lst t es ∧ es.length * P.bytesOf t ≤ big ∧ ∀ e ∈ es, Gds P (kds P t) e := by
  cases h with
  | sl t es h1 h2 h3 h4 =>
    refine ⟨es, rfl, Nat.le_trans h1 (by decide), fun e he => ?_⟩
    obtain ⟨i, hi, rfl⟩ := List.mem_iff_getElem.1 he
    have e1 : es.getD i [] = es[i] := by simp [List.getD, hi]
    have g3 := h3 i hi
    have g4 := fun j => h4 i j hi
    rw [e1] at g3
    simp only [e1] at g4
    exact ⟨g3, g4⟩

def i64 (n : Int) : Prop := -9223372036854775808 ≤ n ∧ n < 9223372036854775808
def Val.ok (v : Val) : Prop := i64 v.k ∧ i64 v.n ∧ v.s.length ≤ big
def okR (r : List Val) : Prop := r.length ≤ 4398046511104 ∧ ∀ v ∈ r, v.ok
/-- cells, one by one -/
theorem gds_cells {P : Program} {ks : List Kd} {xs : List PV} (h : Gds P ks xs) : xs.length = ks.length ∧ ∀ j, j < ks.length → Gd P (ks.getD j .other) (xs.getD j .top) := ⟨h.len, h.gd⟩

theorem val_cells {a b c : PV} (h0 : Gd Try.prog (.int .i64) a) (h1 : Gd Try.prog (.int .i64) b) (h2 : Gd Try.prog .str c) : ∃ v : Val, a = pI v.k ∧ b = pI v.n ∧ c = pS (bs v.s) ∧ v.ok := by
  obtain ⟨k, rfl, k1⟩ := gd_int h0
  obtain ⟨n, rfl, n1⟩ := gd_int h1
  obtain ⟨s, rfl, s1⟩ := gd_str h2
  exact ⟨⟨k, n, s⟩, rfl, rfl, rfl, k1, n1, s1⟩

/-- a list of some cells, each of its kind -/
theorem gd_list {α : Type} {t : TypeId} {ks : List Kd} {b : Nat} {f : α → List PV} {p : α → Prop} (hk : kds Try.prog t = ks) (hb : Try.prog.bytesOf t = b) (hb1 : 32 ≤ b)
    (hc : ∀ e, Gds Try.prog ks e → ∃ a, e = f a ∧ p a) {x : PV} (h : Gd Try.prog (.sl t) x) : ∃ l : List α, x = .lst t (l.map f) ∧ l.length ≤ 4398046511104 ∧ ∀ a ∈ l, p a := by
  obtain ⟨es, rfl, h1, h2⟩ := gd_lst h
  rw [hk] at h2
  rw [hb] at h1
  obtain ⟨l, rfl, hl⟩ := lst_map fun e he => hc e (h2 e he)
  refine ⟨l, rfl, ?_, hl⟩
  rw [List.length_map] at h1
  have : l.length * 32 ≤ l.length * b := Nat.mul_le_mul_left _ hb1
  unfold big at h1
  omega

theorem gd_row {x : PV} (h : Gd Try.prog (.sl 28) x) : ∃ r : List Val, x = .lst 28 (re r) ∧ okR r := by
  obtain ⟨l, e, h1, h2⟩ := gd_list (f := Val.e) (p := Val.ok) (ks := [.int .i64, .int .i64, .str]) (b := 32) (by kernel_rfl) (by kernel_rfl) (by decide) (fun e he => by
    obtain ⟨hl, hg⟩ := gds_cells he
    match e, hl, hg with
    | [a, b, c], _, hg =>
      obtain ⟨v, rfl, rfl, rfl, hv⟩ := val_cells (hg 0 (by decide)) (hg 1 (by decide)) (hg 2 (by decide))
      exact ⟨v, rfl, hv⟩) h
  exact ⟨l, e, h1, h2⟩

end Go.Proofs.Ytinnnhiaamjjlaa

set_option linter.unusedVariables false
set_option linter.unusedSimpArgs false
namespace Go.Proofs.Ytinnnhiaamjjlaa
open Go Go.Pu

theorem cmp_Compare_int_res (a b : Int) : (m_cmp_Compare_int [.i a, .i b]).res = some (0, [.i (Cmp.cmpI a b)]) := by
  simp only [m_cmp_Compare_int, Cmp.cmpI, res_test, res_stop, bne_self_eq_false, Bool.false_eq_true, if_false, decide_eq_true_eq]
  split
  · rfl
  · split <;> rfl

theorem value_May_res (v : Val) : (m_value_May [.i v.k, .i v.n, .s (bs v.s)]).res = some (0, [.b (mayV v)]) := by
  simp only [m_value_May, mayV, res_test, res_stop, bs_toList, bs_size]
  by_cases h0 : v.k = 0
  · simp [h0]
  · by_cases h1 : v.k = 1
    · by_cases h2 : v.n = 0
      · simp [h1, h2]
      · by_cases h3 : v.n = 1 <;> simp [h1, h2, h3]
    · by_cases h2 : v.k = 2
      · simp [h2]
      · by_cases h3 : v.k = 3
        · have h5 : ((v.s.length : Int) ≤ 1000) ↔ v.s.length ≤ 1000 := by omega
          by_cases h4 : v.n = 0
          · simp [h3, h4, h5]
          · simp [h3, h4]
        · simp [h0, h1, h2, h3]

theorem R01_May_res (v : Val) : (m_R01_May [.i v.k, .i v.n, .s (bs v.s)]).res = some (0, [.b (mayV v)]) := by
  simp only [m_R01_May, mayV, res_test, res_stop, bs_toList, bs_size]
  by_cases h0 : v.k = 0
  · by_cases hs : v.s = []
    · by_cases h4 : v.n = 0
      · simp [h0, hs, h4]
      · by_cases h5 : 0 ≤ v.n
        · have : ¬ v.n ≤ 0 := by omega
          simp [h0, hs, h4, h5, this]
        · simp [h0, hs, h4, h5]
    · simp [h0, hs]
  · by_cases h1 : v.k = 1
    · by_cases hs : v.s = []
      · by_cases h5 : 0 ≤ v.n
        · by_cases h6 : v.n ≤ 1
          · have : v.n = 0 ∨ v.n = 1 := by omega
            rcases this with h | h <;> simp [h1, hs, h]
          · have h7 : ¬ v.n = 0 := by omega
            have h8 : ¬ v.n = 1 := by omega
            simp [h1, hs, h5, h6, h7, h8]
        · have h7 : ¬ v.n = 0 := by omega
          have h8 : ¬ v.n = 1 := by omega
          simp [h1, hs, h5, h7, h8]
      · simp [h1, hs]
    · by_cases h2 : v.k = 2
      · simp [h2]
      · by_cases h3 : v.k = 3
        · have h5 : ((v.s.length : Int) ≤ 1000) ↔ v.s.length ≤ 1000 := by omega
          by_cases h4 : v.n = 0
          · simp [h3, h4, h5]
          · simp [h3, h4]
        · simp [h0, h1, h2, h3]

theorem value_Compare_res (v w : Val) : (m_value_Compare [.i v.k, .i v.n, .s (bs v.s), .i w.k, .i w.n, .s (bs w.s)]).res = some (0, [.i (cmpV v w)]) := by
  have hl : ∀ x y z : Int, lres rd_value_Compare_48_3 [.i 0, .l [[pI x], [pI y], [pI z]], .i 3, .i 0] = if Cmp.thn x (Cmp.thn y z) = 0 then some (1, [.i 0]) else some (0, [.i (Cmp.thn x (Cmp.thn y z))]) := by
    intro x y z
    have s1 : ∀ i : Int, i = 0 ∨ i = 1 ∨ i = 2 → (rd_value_Compare_48_3 [.i 0, .l [[pI x], [pI y], [pI z]], .i 3, .i i]).val =
        if cI (el [[pI x], [pI y], [pI z]] i) 0 = 0 then some (.next [.i 0, .l [[pI x], [pI y], [pI z]], .i 3, .i (i + 1)]) else some (.stop 0 [.i (cI (el [[pI x], [pI y], [pI z]] i) 0)]) := by
      intro i hi
      have h1 : i < 3 := by omega
      have h2 : inR i (ln [[pI x], [pI y], [pI z]]) = true := by rw [inR_iff]; simp [ln]; omega
      have h3 : w64 (i + 1) = i + 1 := w64_eq (by omega) (by omega)
      simp only [rd_value_Compare_48_3, rt_test, rt_stop, rt_next, h1, h2, h3, decide_true, if_true]
      by_cases h : cI (el [[pI x], [pI y], [pI z]] i) 0 = 0 <;> simp [h]
    have s3 : (rd_value_Compare_48_3 [.i 0, .l [[pI x], [pI y], [pI z]], .i 3, .i 3]).val = some (.stop 1 [.i 0]) := by simp [rd_value_Compare_48_3]
    have e0 : cI (el [[pI x], [pI y], [pI z]] 0) 0 = x := rfl
    have e1 : cI (el [[pI x], [pI y], [pI z]] 1) 0 = y := rfl
    have e2 : cI (el [[pI x], [pI y], [pI z]] 2) 0 = z := rfl
    have t0 := s1 0 (by omega)
    have t1 := s1 1 (by omega)
    have t2 := s1 2 (by omega)
    rw [e0] at t0; rw [e1] at t1; rw [e2] at t2
    unfold Cmp.thn
    by_cases hx : x = 0
    · rw [if_pos hx] at t0
      rw [lres_next t0]
      by_cases hy : y = 0
      · rw [if_pos hy] at t1
        rw [show (0 : Int) + 1 = 1 from rfl, lres_next t1]
        by_cases hz : z = 0
        · rw [if_pos hz] at t2
          rw [show (1 : Int) + 1 = 2 from rfl, lres_next t2, show (2 : Int) + 1 = 3 from rfl, lres_stop s3]
          simp [hx, hy, hz]
        · rw [if_neg hz] at t2
          rw [show (1 : Int) + 1 = 2 from rfl, lres_stop t2]
          simp [hx, hy, hz]
      · rw [if_neg hy] at t1
        rw [show (0 : Int) + 1 = 1 from rfl, lres_stop t1]
        simp [hx, hy]
    · rw [if_neg hx] at t0
      rw [lres_stop t0]
      simp [hx]
  simp only [m_value_Compare, cmp_Compare_int_res, hl, res_test, ok_some', out_some, uI_0, bs_data, beq_self_eq_true, if_true, cmpV]
  split <;> rename_i h <;> simp [h]

end Go.Proofs.Ytinnnhiaamjjlaa

set_option linter.unusedVariables false
set_option linter.unusedSimpArgs false
namespace Go.Proofs.Ytinnnhiaamjjlaa
open Go Go.Pu

theorem compareBytes_less : ∀ (a b : List UInt8), Lib.compareBytes a b = if Op.bytesLess a b = true then -1 else if a = b then 0 else 1
  | [], [] => by simp [Lib.compareBytes, Op.bytesLess]
  | [], _ :: _ => by simp [Lib.compareBytes, Op.bytesLess]
  | _ :: _, [] => by simp [Lib.compareBytes, Op.bytesLess]
  | a :: xs, b :: ys => by
    unfold Lib.compareBytes Op.bytesLess
    by_cases h1 : a < b
    · simp [h1]
    · by_cases h2 : b < a
      · have : a ≠ b := fun e => by subst e; exact absurd h2 (UInt8.lt_irrefl a)
        simp [h1, h2, this]
      · have : a = b := UInt8.le_antisymm (UInt8.not_lt.1 h2) (UInt8.not_lt.1 h1)
        subst this
        simp [h1, compareBytes_less xs ys]

theorem R01_Compare_res (v w : Val) : (m_R01_Compare [.i v.k, .i v.n, .s (bs v.s), .i w.k, .i w.n, .s (bs w.s)]).res = some (0, [.i (cmpV v w)]) := by
  simp only [m_R01_Compare, cmpV, Cmp.thn, Cmp.cmpI, res_test, res_stop, bs_toList, compareBytes_less]
  by_cases h1 : v.k = w.k
  · by_cases h2 : v.n = w.n
    · by_cases h3 : Op.bytesLess v.s w.s = true
      · simp [h1, h2, h3]
      · by_cases h4 : v.s = w.s
        · rw [h4] at h3 ⊢
          simp [h1, h2, h3]
        · simp [h1, h2, h3, h4]
    · by_cases h3 : v.n < w.n
      · simp [h1, h2, h3]
      · have h4 : w.n < v.n := by omega
        simp [h1, h2, h3, h4]
  · by_cases h3 : v.k < w.k
    · simp [h1, h3]
    · have h4 : w.k < v.k := by omega
      simp [h1, h3, h4]

/-! rows -/

theorem row_May_res (r : List Val) (hr : okR r) : (m_row_May [.l (re r)]).res = some (0, [.b (mayR r)]) := by
  have h0 := hr.1
  have hl := loop_all r (rd := rd_row_May_69_2) (fun i => [.l (re r), .i r.length, .i (i : Nat)]) mayV 0 1 (fun i => [.i (i : Nat)]) [] (by simp [rd_row_May_69_2]) (by
    intro i h
    have := value_May_res r[i]
    by_cases hm : mayV r[i] = true <;> simp [rd_row_May_69_2, re, el_map _ _ h, h, w64_succ (i := i) (by omega), Val.e, this, hm])
  simp only [m_row_May, mayR, re, ln_map, res_test, res_stop] at *
  by_cases h40 : r.length ≤ 40
  · have h40' : (r.length : Int) ≤ 40 := by omega
    rcases hl with ⟨h1, h2⟩ | ⟨h1, i, h, _, _, h2⟩
    · simp only [Int.natCast_zero] at h2
      simp [h40, h40', h1, h2]
    · simp only [Int.natCast_zero] at h2
      have : (0 : Int) ≤ (i : Int) := by omega
      simp [h40, h40', h1, h2, this]
  · have h40' : ¬ (r.length : Int) ≤ 40 := by omega
    simp [h40, h40']

theorem R02_May_res (r : List Val) (hr : okR r) : (m_R02_May [.l (re r)]).res = some (0, [.b (r.all mayV)]) := by
  have h0 := hr.1
  have hl := loop_all' r (rd := rd_R02_May_54_2) (fun i => [.l (re r), .i (i : Nat)]) mayV 0 1 [.b false] [] (by simp [rd_R02_May_54_2, re]) (by
    intro i h
    have := R01_May_res r[i]
    by_cases hm : mayV r[i] = true <;> simp [rd_R02_May_54_2, re, el_map _ _ h, h, w64_succ (i := i) (by omega), Val.e, this, hm])
  simp only [Int.natCast_zero] at hl
  by_cases h1 : r.all mayV = true
  · simp [m_R02_May, hl, h1]
  · have h1' : r.all mayV = false := by simpa using h1
    simp [m_R02_May, hl, h1']

theorem R04_May_res (r : List Val) (hr : okR r) : (m_R04_May [.l (re r)]).res = some (0, [.b (mayR r)]) := by
  have := R02_May_res r hr
  by_cases h40 : r.length ≤ 40
  · have h40' : (r.length : Int) ≤ 40 := by omega
    simp only [re] at this ⊢
    simp [m_R04_May, mayR, this, h40, h40']
  · have h40' : ¬ (r.length : Int) ≤ 40 := by omega
    simp [m_R04_May, mayR, re, h40, h40']

end Go.Proofs.Ytinnnhiaamjjlaa

set_option linter.unusedVariables false
set_option linter.unusedSimpArgs false
namespace Go.Proofs.Ytinnnhiaamjjlaa
open Go Go.Pu

/-- how two lists compare, by the first place where they do not meet -/
theorem cmpR_at : ∀ (a b : List Val) (i : Nat) (hi : i ≤ a.length) (hj : i ≤ b.length), (∀ j (h : j < i), a[j] = b[j]) →
    cmpR a b = cmpR (a.drop i) (b.drop i)
  | a, b, 0, _, _, _ => by simp
  | [], b, i + 1, h, _, _ => by simp at h
  | _ :: _, [], i + 1, _, h, _ => by simp at h
  | x :: a, y :: b, i + 1, h1, h2, h => by
    have h0 : x = y := h 0 (by omega)
    subst h0
    have := cmpR_at a b i (by simpa using h1) (by simpa using h2) fun j hj => by simpa using h (j + 1) (by omega)
    simp only [cmpR, Cmp.lstC, cV.self, Cmp.thn] at this ⊢
    simpa using this

theorem cmpR_stop {a b : List Val} {i : Nat} (hi : i < a.length) (hj : i < b.length) (h : ∀ j (h : j < i), a[j] = b[j]) (hne : cmpV a[i] b[i] ≠ 0) : cmpR a b = cmpV a[i] b[i] := by
  rw [cmpR_at a b i (by omega) (by omega) h, List.drop_eq_getElem_cons hi, List.drop_eq_getElem_cons hj]
  simp only [cmpR, Cmp.lstC, Cmp.thn]
  rw [if_pos (by simpa using hne)]

theorem cmpR_end {a b : List Val} (h : ∀ j (h1 : j < a.length) (h2 : j < b.length), a[j] = b[j]) : cmpR a b = if a.length < b.length then -1 else if b.length < a.length then 1 else 0 := by
  by_cases hl : a.length ≤ b.length
  · rw [cmpR_at a b a.length (Nat.le_refl _) hl fun j hj => h j hj (by omega), List.drop_length]
    by_cases he : a.length < b.length
    · rw [if_pos he, List.drop_eq_getElem_cons he]; rfl
    · have : b.drop a.length = [] := List.drop_eq_nil_of_le (by omega)
      rw [if_neg he, if_neg (by omega), this]; rfl
  · rw [cmpR_at a b b.length (by omega) (Nat.le_refl _) fun j hj => h j (by omega) hj, List.drop_length, if_neg (by omega), if_pos (by omega), List.drop_eq_getElem_cons (by omega)]; rfl

theorem R02_Compare_res (a b : List Val) (ha : a.length ≤ 4398046511104) : (m_R02_Compare [.l (re a), .l (re b)]).res = some (0, [.i (cmpR a b)]) := by
  have hl := loop_ix (min a.length b.length) (rd := rd_R02_Compare_27_2) (fun i => [.l (re a), .l (re b), .i (i : Nat)]) (fun i => cmpV (a.getD i default) (b.getD i default) == 0) 0 1
    (fun i => [.i (cmpV (a.getD i default) (b.getD i default))]) [.l (re a), .l (re b)] (by
      by_cases h : a.length ≤ b.length
      · simp [rd_R02_Compare_27_2, Nat.min_eq_left h]
      · have : ¬ ((b.length : Int) < a.length ∧ False) := by simp
        simp [rd_R02_Compare_27_2, Nat.min_eq_right (Nat.le_of_not_le h)]) (by
    intro i h _
    have h1 : i < a.length := by omega
    have h2 : i < b.length := by omega
    have := R01_Compare_res a[i] b[i]
    by_cases hm : cmpV a[i] b[i] = 0 <;> simp [rd_R02_Compare_27_2, el_re _ h1, el_re _ h2, h1, h2, w64_succ (i := i) (by omega), Val.e, this, hm, List.getD])
  simp only [Int.natCast_zero] at hl
  rcases hl with ⟨h1, h2⟩ | ⟨i, h1, h2, h3, h4⟩
  · have he : ∀ j (h1 : j < a.length) (h2 : j < b.length), a[j] = b[j] := fun j j1 j2 => by
      have := h1 j (by omega)
      simp only [List.getD, List.getElem?_eq_getElem j1, List.getElem?_eq_getElem j2, Option.getD_some, beq_iff_eq] at this
      exact (cV.zero _ _).1 this
    rw [cmpR_end he]
    by_cases c1 : a.length < b.length
    · simp [m_R02_Compare, h2, c1]
    · by_cases c2 : b.length < a.length <;> simp [m_R02_Compare, h2, c1, c2]
  · have i1 : i < a.length := by omega
    have i2 : i < b.length := by omega
    have he : ∀ j (h : j < i), a[j] = b[j] := fun j hj => by
      have := h3 j hj
      have j1 : j < a.length := by omega
      have j2 : j < b.length := by omega
      simp only [List.getD, List.getElem?_eq_getElem j1, List.getElem?_eq_getElem j2, Option.getD_some, beq_iff_eq] at this
      exact (cV.zero _ _).1 this
    simp only [List.getD, List.getElem?_eq_getElem i1, List.getElem?_eq_getElem i2, Option.getD_some, beq_eq_false_iff_ne, ne_eq] at h2 h4
    rw [cmpR_stop i1 i2 he h2]
    simp [m_R02_Compare, h4]

theorem key_Compare_res (a b : List Val) (ha : a.length ≤ 4398046511104) : (m_key_Compare [.l (re a), .l (re b)]).res = some (0, [.i (cmpR a b)]) := by
  have hl := loop_ix a.length (rd := rd_key_Compare_76_2) (fun i => [.l (re a), .l (re b), .l (re a), .i a.length, .i (i : Nat)]) (fun i => decide (i < b.length) && cmpV (a.getD i default) (b.getD i default) == 0) 0 1
    (fun i => [.i (if i < b.length then cmpV (a.getD i default) (b.getD i default) else 1)]) [.l (re a), .l (re b)] (by
      simp [rd_key_Compare_76_2]) (by
    intro i h1 _
    by_cases h2 : i < b.length
    · have := value_Compare_res a[i] b[i]
      have h3 : ¬ (b.length : Int) ≤ (i : Int) := by omega
      by_cases hm : cmpV a[i] b[i] = 0 <;> simp [rd_key_Compare_76_2, el_re _ h1, el_re _ h2, h1, h2, h3, w64_succ (i := i) (by omega), Val.e, this, hm, List.getD]
    · have h3 : (b.length : Int) ≤ (i : Int) := by omega
      simp [rd_key_Compare_76_2, h1, h2, h3])
  simp only [Int.natCast_zero] at hl
  rcases hl with ⟨h1, h2⟩ | ⟨i, i1, h2, h3, h4⟩
  · have hle : a.length ≤ b.length := by
      rcases Nat.lt_or_ge b.length a.length with h | h
      · have := h1 b.length h; simp at this
      · exact h
    have he : ∀ j (h1 : j < a.length) (h2 : j < b.length), a[j] = b[j] := fun j j1 j2 => by
      have := h1 j (by omega)
      simp only [List.getD, List.getElem?_eq_getElem j1, List.getElem?_eq_getElem j2, Option.getD_some, Bool.and_eq_true, beq_iff_eq] at this
      exact (cV.zero _ _).1 this.2
    rw [cmpR_end he]
    by_cases c1 : a.length < b.length
    · simp [m_key_Compare, h2, c1]
    · have c2 : ¬ b.length < a.length := by omega
      simp [m_key_Compare, h2, c1, c2]
  · have he : ∀ j (h : j < i) (j2 : j < b.length), a[j] = b[j] := fun j hj j2 => by
      have := h3 j hj
      have j1 : j < a.length := by omega
      simp only [List.getD, List.getElem?_eq_getElem j1, List.getElem?_eq_getElem j2, Option.getD_some, Bool.and_eq_true, beq_iff_eq] at this
      exact (cV.zero _ _).1 this.2
    have hm : (m_key_Compare [.l (re a), .l (re b)]).res = some (0, [.i (if i < b.length then cmpV (a.getD i default) (b.getD i default) else 1)]) := by
      simp [m_key_Compare, h4]
    rw [hm]
    by_cases i2 : i < b.length
    · rw [if_pos i2]
      simp only [List.getD, List.getElem?_eq_getElem i1, List.getElem?_eq_getElem i2, Option.getD_some, i2, decide_true, Bool.true_and, beq_eq_false_iff_ne, ne_eq] at h2 ⊢
      rw [cmpR_stop i1 i2 (fun j hj => he j hj (by omega)) h2]
    · rw [if_neg i2]
      have hb : b.length = i := by
        rcases Nat.lt_or_ge b.length i with h | h
        · have := h3 b.length h; simp at this
        · omega
      have : cmpR a b = 1 := by
        have hbn : b.drop i = [] := List.drop_eq_nil_of_le (by omega)
        rw [cmpR_at a b i (by omega) (by omega) fun j hj => he j hj (by omega), List.drop_eq_getElem_cons i1, hbn]; rfl
      rw [this]

theorem row_Compare_res (a b : List Val) (ha : a.length ≤ 4398046511104) : (m_row_Compare [.l (re a), .l (re b)]).res = some (0, [.i (cmpR a b)]) := by
  simp [m_row_Compare, key_Compare_res a b ha]

end Go.Proofs.Ytinnnhiaamjjlaa

set_option linter.unusedVariables false
set_option linter.unusedSimpArgs false
namespace Go.Proofs.Ytinnnhiaamjjlaa
open Go Go.Pu

theorem wrap_u64 {n : Int} (h1 : 0 ≤ n) (h2 : n < 18446744073709551616) : IntKind.u64.wrap n = n := by
  rw [IntKind.wrap_u64]; omega

theorem mid_eq {i j : Nat} (hi : i < 4611686018427387904) (hj : j < 4611686018427387904) :
    w64 (Int.fdiv (IntKind.wrap IntKind.u64 (w64 ((i : Int) + (j : Int)))) 2) = (((i + j) / 2 : Nat) : Int) := by
  have e1 : w64 ((i : Int) + (j : Int)) = (i : Int) + (j : Int) := w64_eq (by omega) (by omega)
  rw [e1, wrap_u64 (by omega) (by omega)]
  have : Int.fdiv ((i : Int) + (j : Int)) 2 = (((i + j) / 2 : Nat) : Int) := by
    rw [Int.fdiv_eq_ediv_of_nonneg _ (by decide)]; omega
  rw [this, w64_eq (by omega) (by omega)]

theorem okR_bytes {r : List Val} (h : okR r) : (0 + (re r).length) * 32 ≤ 140737488355328 := by
  have := h.1
  simp only [re, List.length_map]; omega

theorem val_ext {v w : Val} : (v.k = w.k ∧ v.n = w.n ∧ v.s = w.s) ↔ v = w := by
  obtain ⟨a, b, c⟩ := v
  obtain ⟨a', b', c'⟩ := w
  simp

def shortR (r : List Val) : Bool := r.all (fun v => decide (v.s.length ≤ 1000)) && decide (r.length ≤ 40)

theorem R02_Short_res {r : List Val} (hr : okR r) : (m_R02_Short [.l (re r)]).res = some (0, [.b (shortR r)]) := by
  have h0 := hr.1
  have hl := loop_all' r (rd := rd_R02_Short_9_2) (fun i => [.l (re r), .i (i : Nat)]) (fun v => decide (v.s.length ≤ 1000)) 0 1 [.b false] [.l (re r)] (by simp [rd_R02_Short_9_2]) (by
    intro i h
    have h5 : ((1000 : Int) < (r[i].s.length : Int)) ↔ ¬ r[i].s.length ≤ 1000 := by omega
    by_cases hm : r[i].s.length ≤ 1000 <;> simp [rd_R02_Short_9_2, el_re _ h, h, w64_succ (i := i) (by omega), Val.e, h5, hm])
  simp only [Int.natCast_zero] at hl
  have h40 : ((r.length : Int) ≤ 40) ↔ r.length ≤ 40 := by omega
  by_cases h1 : r.all (fun v => decide (v.s.length ≤ 1000)) = true
  · rw [if_pos h1] at hl
    simp [m_R02_Short, hl, shortR, h1, h40]
  · rw [if_neg h1] at hl
    have h1' : r.all (fun v => decide (v.s.length ≤ 1000)) = false := by simpa using h1
    simp [m_R02_Short, hl, shortR, h1']

end Go.Proofs.Ytinnnhiaamjjlaa

set_option linter.unusedVariables false
set_option linter.unusedSimpArgs false
namespace Go.Proofs.Ytinnnhiaamjjlaa
open Go Go.Pu

/-! records -/

structure Rec where
  row : List Val
  tid : Int
  deriving DecidableEq
structure Rel where
  name : List UInt8
  recs : List Rec
  deriving DecidableEq
structure Read where
  table : List UInt8
  key : Val
  tid : Int
  deriving DecidableEq
structure Rng where
  table : List UInt8
  lo : Val
  hi : Val
  found : List Read
  deriving DecidableEq
structure Cnt where
  row : List Val
  n : Int
  deriving DecidableEq
structure Look where
  view : List UInt8
  rows : List Cnt
  deriving DecidableEq
structure Src where
  name : List UInt8
  rows : List Cnt
  deriving DecidableEq
structure Seen where
  reads : List Read
  ranges : List Rng
  looks : List Look

instance : Inhabited Rec := ⟨⟨[], 0⟩⟩
instance : Inhabited Rel := ⟨⟨[], []⟩⟩

def Rec.e (c : Rec) : List PV := [.lst 28 (re c.row), pI c.tid]
def Rel.e (r : Rel) : List PV := [pS (bs r.name), .lst 35 (r.recs.map Rec.e)]
def Read.e (x : Read) : List PV := [pS (bs x.table), pI x.key.k, pI x.key.n, pS (bs x.key.s), pI x.tid]
def Cnt.e (c : Cnt) : List PV := [.lst 28 (re c.row), pI c.n]
def Look.e (x : Look) : List PV := [pS (bs x.view), .lst 54 (x.rows.map Cnt.e)]
def Src.e (x : Src) : List PV := [pS (bs x.name), .lst 54 (x.rows.map Cnt.e)]

def Rec.ok (c : Rec) : Prop := okR c.row ∧ i64 c.tid
def Rel.ok (r : Rel) : Prop := r.name.length ≤ big ∧ r.recs.length ≤ 4398046511104 ∧ ∀ c ∈ r.recs, c.ok
def Read.ok (x : Read) : Prop := x.table.length ≤ big ∧ x.key.ok ∧ i64 x.tid
def Rng.ok (x : Rng) : Prop := x.table.length ≤ big ∧ x.lo.ok ∧ x.hi.ok ∧ x.found.length ≤ 4398046511104 ∧ ∀ c ∈ x.found, c.ok
def Cnt.ok (c : Cnt) : Prop := okR c.row ∧ i64 c.n
def okB (b : List Cnt) : Prop := b.length ≤ 4398046511104 ∧ ∀ c ∈ b, c.ok
def Look.ok (x : Look) : Prop := x.view.length ≤ big ∧ okB x.rows
def Src.ok (x : Src) : Prop := x.name.length ≤ big ∧ okB x.rows

theorem gd_recs {x : PV} (h : Gd Try.prog (.sl 35) x) : ∃ l : List Rec, x = .lst 35 (l.map Rec.e) ∧ l.length ≤ 4398046511104 ∧ ∀ c ∈ l, c.ok :=
  gd_list (ks := [.sl 28, .int .i64]) (b := 32) (by kernel_rfl) (by kernel_rfl) (by decide) (fun e he => by
    obtain ⟨hl, hg⟩ := gds_cells he
    match e, hl, hg with
    | [a, b], _, hg =>
      obtain ⟨r, rfl, hr⟩ := gd_row (hg 0 (by decide))
      obtain ⟨n, rfl, hn⟩ := gd_int (hg 1 (by decide))
      exact ⟨⟨r, n⟩, rfl, hr, hn⟩) h

end Go.Proofs.Ytinnnhiaamjjlaa

set_option linter.unusedVariables false
set_option linter.unusedSimpArgs false
namespace Go.Proofs.Ytinnnhiaamjjlaa
open Go Go.Pu

def hd (r : List Val) : Val := match r with | v :: _ => v | [] => default
def Rec.key (c : Rec) : Val := hd c.row
def Rec.right (c : Rec) : Bool := mayR c.row && decide (0 < c.row.length) && c.key.k != 0 && decide (0 ≤ c.tid)

theorem hd_re {r : List Val} (h : 0 < r.length) : (re r)[0]?.getD [] = (hd r).e := by
  cases r with
  | nil => simp at h
  | cons v r => rfl

theorem rel_right_res (c : Rec) (hc : c.ok) : (m_rel_right [.l (re c.row), .i c.tid]).res = some (0, [.b c.right]) := by
  have h := row_May_res c.row hc.1
  by_cases hm : mayR c.row = true
  · by_cases hl : 0 < c.row.length
    · have hg := hd_re hl
      by_cases hk : (hd c.row).k = 0
      · simp [m_rel_right, h, hm, hl, hg, Rec.right, Rec.key, Val.e, hk]
      · by_cases ht : 0 ≤ c.tid <;> simp [m_rel_right, h, hm, hl, hg, Rec.right, Rec.key, Val.e, ht, hk]
    · simp [m_rel_right, h, hm, hl, Rec.right]
  · have hm' : mayR c.row = false := by simpa using hm
    simp [m_rel_right, h, hm', Rec.right]

theorem R16_Right_res (c : Rec) (hc : c.ok) : (m_R16_Right [.l (re c.row), .i c.tid]).res = some (0, [.b c.right]) := by
  have h := R04_May_res c.row hc.1
  by_cases hl : 0 < c.row.length
  · have hg := hd_re hl
    have hl0 : ¬ c.row = [] := fun e => by rw [e] at hl; simp at hl
    have hl1 : ¬ (c.row.length : Int) = 0 := by omega
    by_cases ht : 0 ≤ c.tid
    · have ht' : ¬ c.tid < 0 := by omega
      by_cases hm : mayR c.row = true
      · simp [m_R16_Right, h, hm, hl, hl1, hg, Rec.right, Rec.key, Val.e, ht, ht', hl0]
      · have hm' : mayR c.row = false := by simpa using hm
        simp [m_R16_Right, h, hm', hl, hl1, hg, Rec.right, ht, ht', hl0]
    · have ht' : c.tid < 0 := by omega
      simp [m_R16_Right, Rec.right, ht, ht', hl1]
  · have h0 : c.row = [] := List.eq_nil_of_length_eq_zero (by omega)
    simp [m_R16_Right, Rec.right, h0, re]

/-! may a table be? -/

def pMay (l : List Rec) (i : Nat) : Bool := (l.getD i default).right && (i == 0 || decide (cmpV (l.getD (i - 1) default).key (l.getD i default).key < 0))
def mayL (l : List Rec) : Bool := (List.range l.length).all (pMay l)

theorem mayL_iff {l : List Rec} : mayL l = true ↔ ∀ i, i < l.length → pMay l i = true := by
  simp [mayL, List.all_eq_true]

theorem mayL_false {l : List Rec} {i : Nat} (h : i < l.length) (hp : pMay l i = false) : mayL l = false := by
  cases e : mayL l with
  | false => rfl
  | true => rw [mayL_iff.1 e i h] at hp; cases hp

theorem right_len {c : Rec} (h : c.right = true) : 0 < c.row.length := by
  simp only [Rec.right, Bool.and_eq_true, decide_eq_true_eq] at h
  exact h.1.1.2

def okL (l : List Rec) : Prop := l.length ≤ 4398046511104 ∧ ∀ c ∈ l, c.ok

theorem okL_at {l : List Rec} (h : okL l) {i : Nat} (hi : i < l.length) : (l[i]).ok := h.2 _ (List.getElem_mem hi)

theorem w64_pred {i : Nat} (h : 0 < i) (h2 : i < 4611686018427387904) : w64 ((i : Int) - 1) = ((i - 1 : Nat) : Int) := by
  rw [w64_eq (by omega) (by omega)]; omega

@[simp] theorem el_recs {l : List Rec} {i : Nat} (h : i < l.length) : el (l.map Rec.e) i = Rec.e l[i] := el_map _ _ h

theorem pMay_right {l : List Rec} {i : Nat} (hi : i < l.length) (h : pMay l i = true) : (l[i]).right = true := by
  simp only [pMay, List.getD, List.getElem?_eq_getElem hi, Option.getD_some, Bool.and_eq_true] at h
  exact h.1

theorem pMay_at {l : List Rec} {i : Nat} (hi : i < l.length) : pMay l i = ((l[i]).right && (i == 0 || decide (cmpV (l[i - 1]'(by omega)).key (l[i]).key < 0))) := by
  have h1 : i - 1 < l.length := by omega
  simp only [pMay, List.getD, List.getElem?_eq_getElem hi, List.getElem?_eq_getElem h1, Option.getD_some]

theorem rel_May_res (s : List UInt8) (l : List Rec) (hl : okL l) : (m_rel_May [.s (bs s), .l (l.map Rec.e)]).res = some (0, [.b (mayL l)]) := by
  have h0 := hl.1
  have h := loop_ix l.length (rd := rd_rel_May_15_2) (fun i => [.l (l.map Rec.e), .i l.length, .i (i : Nat), .s (bs s), .l (l.map Rec.e)]) (pMay l) 0 1
    (fun i => [.b false]) [] (by simp [rd_rel_May_15_2]) (by
    intro i hi hp
    have hr := rel_right_res l[i] (okL_at hl hi)
    rw [pMay_at hi]
    have hw := w64_succ (i := i) (by omega)
    by_cases hq : (l[i]).right = true
    · by_cases hz : i = 0
      · have hn : ¬ 0 < i := by omega
        rw [show (i == 0) = true by simp [hz], Bool.true_or, Bool.and_true]
        simp [rd_rel_May_15_2, hi, Rec.e, hr, hq, hw, hn]
      · have h1 : i - 1 < l.length := by omega
        have hp1 := pMay_right h1 (hp (i - 1) (by omega))
        have g1 := hd_re (right_len hp1)
        have g2 := hd_re (right_len hq)
        have hw1 := w64_pred (i := i) (by omega) (by omega)
        have hc := value_Compare_res (hd l[i - 1].row) (hd l[i].row)
        have hpos : 0 < i := by omega
        have r1 := right_len hp1
        have r2 := right_len hq
        by_cases hm : cmpV (hd l[i - 1].row) (hd l[i].row) < 0
        · have hm' : ¬ 0 ≤ cmpV (hd l[i - 1].row) (hd l[i].row) := by omega
          simp [rd_rel_May_15_2, hi, h1, Rec.e, hr, hq, hw, hw1, hz, hpos, g1, g2, Val.e, hc, hm, hm', r1, r2, Rec.key]
        · have hm' : 0 ≤ cmpV (hd l[i - 1].row) (hd l[i].row) := by omega
          simp [rd_rel_May_15_2, hi, h1, Rec.e, hr, hq, hw, hw1, hz, hpos, g1, g2, Val.e, hc, hm, hm', r1, r2, Rec.key]
    · have hq' : (l[i]).right = false := by simpa using hq
      simp [rd_rel_May_15_2, hi, Rec.e, hr, hq'])
  simp only [Int.natCast_zero] at h
  rcases h with ⟨h1, h2⟩ | ⟨i, hi, h1, _, h2⟩
  · simp [m_rel_May, h2, mayL_iff.2 h1]
  · simp [m_rel_May, h2, mayL_false hi h1]

theorem R16_May_res (s : List UInt8) (l : List Rec) (hl : okL l) : (m_R16_May [.s (bs s), .l (l.map Rec.e)]).res = some (0, [.b (mayL l)]) := by
  have h0 := hl.1
  have h := loop_ix l.length (rd := rd_R16_May_16_2) (fun i => [.i (i : Nat), .s (bs s), .l (l.map Rec.e)]) (pMay l) 0 1
    (fun i => [.b false]) [] (by simp [rd_R16_May_16_2]) (by
    intro i hi hp
    have hr := R16_Right_res l[i] (okL_at hl hi)
    rw [pMay_at hi]
    have hw := w64_succ (i := i) (by omega)
    by_cases hq : (l[i]).right = true
    · by_cases hz : i = 0
      · have hn : ¬ 0 < i := by omega
        rw [show (i == 0) = true by simp [hz], Bool.true_or, Bool.and_true]
        simp [rd_R16_May_16_2, hi, Rec.e, hr, hq, hw, hn]
      · have h1 : i - 1 < l.length := by omega
        have hp1 := pMay_right h1 (hp (i - 1) (by omega))
        have g1 := hd_re (right_len hp1)
        have g2 := hd_re (right_len hq)
        have hw1 := w64_pred (i := i) (by omega) (by omega)
        have hc := R01_Compare_res (hd l[i - 1].row) (hd l[i].row)
        have hpos : 0 < i := by omega
        have r1 := right_len hp1
        have r2 := right_len hq
        by_cases hm : cmpV (hd l[i - 1].row) (hd l[i].row) < 0
        · have hm' : ¬ 0 ≤ cmpV (hd l[i - 1].row) (hd l[i].row) := by omega
          simp [rd_R16_May_16_2, hi, h1, Rec.e, hr, hq, hw, hw1, hz, hpos, g1, g2, Val.e, hc, hm, hm', r1, r2, Rec.key]
        · have hm' : 0 ≤ cmpV (hd l[i - 1].row) (hd l[i].row) := by omega
          simp [rd_R16_May_16_2, hi, h1, Rec.e, hr, hq, hw, hw1, hz, hpos, g1, g2, Val.e, hc, hm, hm', r1, r2, Rec.key]
    · have hq' : (l[i]).right = false := by simpa using hq
      simp [rd_R16_May_16_2, hi, Rec.e, hr, hq'])
  simp only [Int.natCast_zero] at h
  rcases h with ⟨h1, h2⟩ | ⟨i, hi, h1, _, h2⟩
  · simp [m_R16_May, h2, mayL_iff.2 h1]
  · simp [m_R16_May, h2, mayL_false hi h1]

/-! a table that may be rises -/

theorem mayL_right {l : List Rec} (h : mayL l = true) {i : Nat} (hi : i < l.length) : (l[i]).right = true := pMay_right hi (mayL_iff.1 h i hi)

theorem mayL_lt {l : List Rec} (h : mayL l = true) : ∀ {i j : Nat} (hj : j < l.length) (hij : i < j), cmpV (l[i]).key (l[j]).key < 0 := by
  have step : ∀ i (hi : i + 1 < l.length), cmpV (l[i]).key (l[i + 1]).key < 0 := fun i hi => by
    have := mayL_iff.1 h (i + 1) hi
    rw [pMay_at hi] at this
    simp only [Bool.and_eq_true, Bool.or_eq_true, decide_eq_true_eq, Nat.add_sub_cancel] at this
    rcases this.2 with h1 | h1
    · simp at h1
    · exact h1
  intro i j hj hij
  obtain ⟨d, rfl⟩ : ∃ d, j = i + 1 + d := ⟨j - (i + 1), by omega⟩
  induction d with
  | zero => exact step i hj
  | succ d ih => exact cV.lt_trans (ih (by omega) (by omega)) (step (i + 1 + d) hj)

theorem mayL_row {l : List Rec} (h : mayL l = true) {i : Nat} (hi : i < l.length) : 0 < (l[i]).row.length := right_len (mayL_right h hi)

end Go.Proofs.Ytinnnhiaamjjlaa

set_option linter.unusedVariables false
set_option linter.unusedSimpArgs false
namespace Go.Proofs.Ytinnnhiaamjjlaa
open Go Go.Pu

/-- where a key is, or would be -/
structure At (l : List Rec) (k : Val) (p : Nat) : Prop where
  le : p ≤ l.length
  lo : ∀ i (h : i < l.length), i < p → cmpV (l[i]).key k < 0
  hi : ∀ i (h : i < l.length), p ≤ i → 0 ≤ cmpV (l[i]).key k

theorem At.uniq {l : List Rec} {k : Val} {p q : Nat} (h : At l k p) (g : At l k q) : p = q := by
  rcases Nat.lt_trichotomy p q with h1 | h1 | h1
  · have a := h.hi p (by have := g.le; omega) (Nat.le_refl _)
    have b := g.lo p (by have := g.le; omega) h1
    omega
  · exact h1
  · have a := g.hi q (by have := h.le; omega) (Nat.le_refl _)
    have b := h.lo q (by have := h.le; omega) h1
    omega

theorem find_loop {l : List Rec} (hl : okL l) (hm : mayL l = true) (k : Val) : ∀ (d i j : Nat), j - i = d → i ≤ j → j ≤ l.length →
    (∀ q (h : q < l.length), q < i → cmpV (l[q]).key k < 0) → (∀ q (h : q < l.length), j ≤ q → 0 ≤ cmpV (l[q]).key k) →
    ∃ p, At l k p ∧ lres rd_rel_find_44_3 [.l (l.map Rec.e), .i l.length, .i (i : Nat), .i (j : Nat), .i k.k, .i k.n, .s (bs k.s)] = some (0, [.l (l.map Rec.e), .i l.length, .i (p : Nat), .i k.k, .i k.n, .s (bs k.s)]) := by
  have h0 := hl.1
  intro d
  induction d using Nat.strongRecOn with
  | ind d ih =>
    intro i j hdd hij hj h1 h2
    by_cases he : i = j
    · subst he
      refine ⟨i, ⟨hj, h1, h2⟩, lres_stop ?_⟩
      simp [rd_rel_find_44_3]
    · have hlt : i < j := by omega
      have hmid := mid_eq (i := i) (j := j) (by omega) (by omega)
      generalize hh : (i + j) / 2 = m at hmid
      have hm1 : m < l.length := by omega
      have hr := mayL_row hm hm1
      have hg := hd_re hr
      have hc := value_Compare_res (hd l[m].row) k
      have hw := w64_succ (i := m) (by omega)
      by_cases hcm : cmpV (hd l[m].row) k < 0
      · obtain ⟨p, p1, p2⟩ := ih (j - (m + 1)) (by omega) (m + 1) j rfl (by omega) hj (fun q hq hqi => by
          by_cases hqm : q = m
          · subst hqm; exact hcm
          · exact cV.lt_trans (mayL_lt hm hm1 (show q < m by omega)) hcm) h2
        refine ⟨p, p1, ?_⟩
        rw [← p2]
        refine lres_next ?_
        simp [rd_rel_find_44_3, hmid, hm1, Rec.e, hr, hg, Val.e, hc, hcm, hlt, hw]
      · obtain ⟨p, p1, p2⟩ := ih (m - i) (by omega) i m rfl (by omega) (by omega) h1 (fun q hq hqi => by
          by_cases hqm : q = m
          · subst hqm; show 0 ≤ cmpV (hd l[q].row) k; omega
          · have := mayL_lt hm hq (show m < q by omega)
            have a := cV.anti (l[m]).key (l[q]).key
            have hcm' : 0 ≤ cmpV (l[m]).key k := by show 0 ≤ cmpV (hd l[m].row) k; omega
            have b := cV.anti (l[m]).key k
            have c := cV.anti (l[q]).key k
            by_cases h3 : cmpV (l[q]).key k < 0
            · have := cV.lt_trans this h3
              omega
            · omega)
        refine ⟨p, p1, ?_⟩
        rw [← p2]
        refine lres_next ?_
        simp [rd_rel_find_44_3, hmid, hm1, Rec.e, hr, hg, Val.e, hc, hcm, hlt]

theorem rel_find_res (s : List UInt8) {l : List Rec} (hl : okL l) (hm : mayL l = true) (k : Val) :
    ∃ p, At l k p ∧ (m_rel_find [.s (bs s), .l (l.map Rec.e), .i k.k, .i k.n, .s (bs k.s)]).res = some (0, [.i (p : Nat), .b (decide (∃ h : p < l.length, (l[p]).key = k))]) := by
  obtain ⟨p, p1, p2⟩ := find_loop hl hm k l.length 0 l.length (by omega) (by omega) (Nat.le_refl _) (fun q _ h => by omega) (fun q h h2 => by omega)
  refine ⟨p, p1, ?_⟩
  simp only [Int.natCast_zero] at p2
  by_cases hp : p < l.length
  · have hr := mayL_row hm hp
    have hg := hd_re hr
    have hc := value_Compare_res (hd l[p].row) k
    have hz := cV.zero (hd l[p].row) k
    by_cases he : hd l[p].row = k
    · have hz' := hz.2 he
      rw [decide_eq_true (show ∃ h : p < l.length, (l[p]).key = k from ⟨hp, he⟩)]
      simp [m_rel_find, p2, hp, Rec.e, hr, hg, Val.e, hc, hz']
    · have hz' : ¬ cmpV (hd l[p].row) k = 0 := fun e => he (hz.1 e)
      rw [decide_eq_false (show ¬ ∃ h : p < l.length, (l[p]).key = k from fun ⟨_, e⟩ => he e)]
      simp [m_rel_find, p2, hp, Rec.e, hr, hg, Val.e, hc, hz']
  · simp [m_rel_find, p2, hp]

/-! by a key -/

def getL (l : List Rec) (k : Val) : Option Rec := if mayL l = true then l.find? (fun c => decide (c.key = k)) else none

theorem find_at {l : List Rec} (hm : mayL l = true) {k : Val} {p : Nat} (h : At l k p) : l.find? (fun c => decide (c.key = k)) = if h : ∃ h : p < l.length, (l[p]).key = k then some (l[p]'h.1) else none := by
  split
  · rename_i he
    obtain ⟨hp, he⟩ := he
    rw [List.find?_eq_some_iff_getElem]
    refine ⟨by simpa using he, p, hp, rfl, fun j hj => ?_⟩
    have := h.lo j (by omega) hj
    simp only [Bool.not_eq_true', decide_eq_false_iff_not]
    intro e
    rw [e, cV.self] at this; omega
  · rename_i he
    rw [List.find?_eq_none]
    intro c hc
    obtain ⟨j, hj, rfl⟩ := List.mem_iff_getElem.1 hc
    simp only [decide_eq_true_eq]
    intro e
    apply he
    rcases Nat.lt_or_ge j p with h1 | h1
    · have := h.lo j hj h1
      rw [e, cV.self] at this; omega
    · by_cases h2 : j = p
      · subst h2; exact ⟨hj, e⟩
      · have hp : p < l.length := by omega
        have a := mayL_lt hm hj (show p < j by omega)
        have b := h.hi p hp (Nat.le_refl _)
        rw [e] at a
        omega

def tidO (o : Option Rec) : Int := match o with | some c => c.tid | none => 0
def rowO (o : Option Rec) : List Val := match o with | some c => c.row | none => []

theorem rel_Get_res (s : List UInt8) {l : List Rec} (hl : okL l) (k : Val) :
    (m_rel_Get [.s (bs s), .l (l.map Rec.e), .i k.k, .i k.n, .s (bs k.s)]).res = some (0, [.i (tidO (getL l k)), .b (getL l k).isSome, .l (re (rowO (getL l k)))]) := by
  have hM := rel_May_res s l hl
  by_cases hm : mayL l = true
  · obtain ⟨p, p1, p2⟩ := rel_find_res s hl hm k
    have hf := find_at hm p1
    by_cases he : ∃ h : p < l.length, (l[p]).key = k
    · obtain ⟨hp, hk⟩ := he
      rw [dif_pos ⟨hp, hk⟩] at hf
      have ho := okR_bytes (okL_at hl hp).1
      have ho' : (re (l[p]).row).length * 32 ≤ 140737488355328 := by omega
      simp [m_rel_Get, hM, hm, p2, hp, hk, getL, hf, tidO, rowO, Rec.e, ho']
    · rw [dif_neg he] at hf
      have he' : decide (∃ h : p < l.length, (l[p]).key = k) = false := decide_eq_false he
      rw [he'] at p2
      simp [m_rel_Get, hM, hm, p2, getL, hf, tidO, rowO, re]
  · have hm' : mayL l = false := by simpa using hm
    simp [m_rel_Get, hM, hm', getL, tidO, rowO, re]

theorem R16_Get_res (s : List UInt8) {l : List Rec} (hl : okL l) (k : Val) :
    (m_R16_Get [.s (bs s), .l (l.map Rec.e), .i k.k, .i k.n, .s (bs k.s)]).res = some (0, [.l (re (rowO (getL l k))), .i (tidO (getL l k)), .b (getL l k).isSome]) := by
  have h0 := hl.1
  have hM := R16_May_res s l hl
  by_cases hm : mayL l = true
  · have h := loop_ix l.length (rd := rd_R16_Get_12_2) (fun i => [.i (i : Nat), .s (bs s), .l (l.map Rec.e), .i k.k, .i k.n, .s (bs k.s), .i 0]) (fun i => !decide ((l.getD i default).key = k)) 0 1
      (fun i => [.b true, .l (re (l.getD i default).row), .i (l.getD i default).tid]) [.i 0] (by simp [rd_R16_Get_12_2]) (by
      intro i hi _
      have hr := mayL_row hm hi
      have hg := hd_re hr
      have hv := val_ext (v := hd l[i].row) (w := k)
      by_cases he : hd l[i].row = k
      · rw [he] at hg
        simp [rd_R16_Get_12_2, hi, hM, hm, Rec.e, hr, hg, Val.e, he, List.getD, Rec.key]
      · have hne := fun h => he (hv.1 h)
        simp [rd_R16_Get_12_2, hi, hM, hm, Rec.e, hr, hg, Val.e, he, List.getD, Rec.key, w64_succ (i := i) (by omega)]
        exact fun a b c => hne ⟨a, b, c⟩)
    simp only [Int.natCast_zero] at h
    rcases h with ⟨h1, h2⟩ | ⟨i, hi, h1, h3, h2⟩
    · have hf : l.find? (fun c => decide (c.key = k)) = none := by
        rw [List.find?_eq_none]
        intro c hc
        obtain ⟨j, hj, rfl⟩ := List.mem_iff_getElem.1 hc
        have := h1 j hj
        simpa [List.getD, hj] using this
      simp [m_R16_Get, h2, getL, hm, hf, tidO, rowO, re]
    · have hf : l.find? (fun c => decide (c.key = k)) = some l[i] := by
        rw [List.find?_eq_some_iff_getElem]
        refine ⟨by simpa [List.getD, hi] using h1, i, hi, rfl, fun j hj => ?_⟩
        have := h3 j hj
        have hj2 : j < l.length := by omega
        simpa [List.getD, hj2] using this
      simp [m_R16_Get, h2, getL, hm, hf, tidO, rowO, List.getD, hi]
  · have hm' : mayL l = false := by simpa using hm
    have : lres rd_R16_Get_12_2 [.i 0, .s (bs s), .l (l.map Rec.e), .i k.k, .i k.n, .s (bs k.s), .i 0] = some (1, [.i 0]) := by
      refine lres_stop ?_
      by_cases h : 0 < l.length
      · simp [rd_R16_Get_12_2, h, hM, hm']
      · simp [rd_R16_Get_12_2, h]
    simp [m_R16_Get, this, getL, hm', tidO, rowO, re]

end Go.Proofs.Ytinnnhiaamjjlaa

set_option linter.unusedVariables false
set_option linter.unusedSimpArgs false
namespace Go.Proofs.Ytinnnhiaamjjlaa
open Go Go.Pu

theorem take_succ {α : Type} {l : List α} {i : Nat} (h : i < l.length) : l.take (i + 1) = l.take i ++ [l[i]] := by
  rw [List.take_add_one, List.getElem?_eq_getElem h]; rfl

theorem okL_sub {l m : List Rec} (h : okL l) (hs : m.Sublist l) : okL m := ⟨Nat.le_trans hs.length_le h.1, fun c hc => h.2 c (hs.subset hc)⟩

theorem rel_some_res {l : List Rec} (hl : okL l) : (m_rel_some [.l (l.map Rec.e)]).res = some (0, [.l (l.map Rec.e)]) := by
  have h0 := hl.1
  have h := loop_acc (rd := rd_rel_some_34_3) l.length (fun i => [.l (l.map Rec.e), .i l.length, .i (i : Nat), .l ((l.take i).map Rec.e)]) (some (0, [.l (l.map Rec.e)]))
    (lres_stop (by simp [rd_rel_some_34_3])) (by
    intro i hi
    have ho := okR_bytes (okL_at hl hi).1
    have ho' : (re (l[i]).row).length * 32 ≤ 140737488355328 := by omega
    have hb : ((l.take i).length + 1) * 32 ≤ 140737488355328 := by rw [List.length_take]; omega
    rw [take_succ hi]
    generalize l.take i = t at hb ⊢
    simp [rd_rel_some_34_3, hi, Rec.e, ho', hb, w64_succ (i := i) (by omega)])
  simp only [Int.natCast_zero, List.take_zero, List.map_nil] at h
  simp [m_rel_some, h]

/-- is a record's key between two? -/
def btw (a b : Val) (c : Rec) : Bool := decide (0 ≤ cmpV c.key a) && decide (cmpV c.key b < 0)
def scanL (l : List Rec) (a b : Val) : List Rec := if mayL l = true then l.filter (btw a b) else []

theorem filter_mid {α : Type} (q : α → Bool) : ∀ (l : List α) (a b : Nat), a ≤ b → b ≤ l.length → (∀ i (h : i < l.length), q l[i] = (decide (a ≤ i) && decide (i < b))) → l.filter q = (l.drop a).take (b - a)
  | [], a, b, h1, h2, h => by simp at h2; subst h2; simp
  | x :: l, 0, 0, _, _, h => by
    simp only [List.drop_zero, Nat.sub_zero, List.take_zero, List.filter_eq_nil_iff]
    intro y hy
    obtain ⟨j, hj, rfl⟩ := List.mem_iff_getElem.1 hy
    rw [h j hj]; simp
  | x :: l, 0, b + 1, _, h2, h => by
    have h0 := h 0 (by simp)
    simp only [List.getElem_cons_zero, Nat.zero_le, decide_true, Bool.true_and, Nat.zero_lt_succ] at h0
    have ih := filter_mid q l 0 b (Nat.zero_le _) (by simpa using h2) fun i hi => by
      have := h (i + 1) (by simpa using hi)
      simp only [List.getElem_cons_succ] at this
      rw [this]; simp
    simp only [List.filter_cons, h0, if_true, List.drop_zero, Nat.sub_zero, List.take_succ_cons] at ih ⊢
    rw [ih]
  | x :: l, a + 1, 0, h1, _, _ => by omega
  | x :: l, a + 1, b + 1, h1, h2, h => by
    have h0 := h 0 (by simp)
    simp only [List.getElem_cons_zero] at h0
    have ih := filter_mid q l a b (by omega) (by simpa using h2) fun i hi => by
      have := h (i + 1) (by simpa using hi)
      simp only [List.getElem_cons_succ] at this
      rw [this]; simp
    have h0' : q x = false := by rw [h0]; simp
    simp only [List.filter_cons, h0', Bool.false_eq_true, if_false, List.drop_succ_cons]
    rw [ih]; congr 1; omega

theorem At.btw {l : List Rec} {a b : Val} {p q : Nat} (h : At l a p) (g : At l b q) {i : Nat} (hi : i < l.length) : btw a b l[i] = (decide (p ≤ i) && decide (i < q)) := by
  have h1 := h.lo i hi
  have h2 := h.hi i hi
  have g1 := g.lo i hi
  have g2 := g.hi i hi
  unfold Go.Proofs.Ytinnnhiaamjjlaa.btw
  congr 1
  · by_cases e : p ≤ i
    · simp [e, h2 e]
    · have := h1 (by omega)
      simp [e]; omega
  · by_cases e : i < q
    · simp [e, g1 e]
    · have := g2 (by omega)
      simp [e]; omega

theorem At.mono {l : List Rec} {a b : Val} {p q : Nat} (h : At l a p) (g : At l b q) (hab : cmpV a b < 0) : p ≤ q := by
  by_cases e : p ≤ q
  · exact e
  · exfalso
    have hq : q < l.length := by have := h.le; omega
    have h1 := h.lo q hq (by omega)
    have g1 := g.hi q hq (Nat.le_refl _)
    have := cV.lt_trans h1 hab
    omega

theorem rel_Scan_res (s : List UInt8) {l : List Rec} (hl : okL l) (a b : Val) :
    (m_rel_Scan [.s (bs s), .l (l.map Rec.e), .i a.k, .i a.n, .s (bs a.s), .i b.k, .i b.n, .s (bs b.s)]).res = some (0, [.l ((scanL l a b).map Rec.e)]) := by
  have hM := rel_May_res s l hl
  have hc := value_Compare_res a b
  by_cases hm : mayL l = true
  · by_cases hab : cmpV a b < 0
    · obtain ⟨p, p1, p2⟩ := rel_find_res s hl hm a
      obtain ⟨q, q1, q2⟩ := rel_find_res s hl hm b
      have hpq := p1.mono q1 hab
      have hf := filter_mid (btw a b) l p q hpq q1.le fun i hi => p1.btw q1 hi
      have hsub : okL ((l.drop p).take (q - p)) := okL_sub hl ((List.take_sublist _ _).trans (List.drop_sublist _ _))
      have hs := rel_some_res hsub
      have hab' : ¬ 0 ≤ cmpV a b := by omega
      have h3 : (p : Int) ≤ (q : Int) := by omega
      have h4 := q1.le
      simp only [List.map_take, List.map_drop] at hs
      simp [m_rel_Scan, hM, hm, hc, hab', p2, q2, hpq, h4, hs, scanL, hf]
    · have hab' : 0 ≤ cmpV a b := by omega
      have hn : l.filter (btw a b) = [] := by
        rw [List.filter_eq_nil_iff]
        intro c _ hb
        simp only [btw, Bool.and_eq_true, decide_eq_true_eq] at hb
        have h1 := cV.anti c.key a
        have h2 := cV.lt_of_le_of_lt (show cmpV a c.key ≤ 0 by omega) hb.2
        omega
      simp [m_rel_Scan, hM, hm, hc, hab', scanL, hn]
  · have hm' : mayL l = false := by simpa using hm
    simp [m_rel_Scan, hM, hm', scanL]

theorem R16_Scan_res (s : List UInt8) {l : List Rec} (hl : okL l) (a b : Val) :
    (m_R16_Scan [.s (bs s), .l (l.map Rec.e), .i a.k, .i a.n, .s (bs a.s), .i b.k, .i b.n, .s (bs b.s)]).res = some (0, [.l ((scanL l a b).map Rec.e)]) := by
  have h0 := hl.1
  have hM := R16_May_res s l hl
  by_cases hm : mayL l = true
  · have h := loop_acc (rd := rd_R16_Scan_22_3) l.length (fun i => [.i (i : Nat), .s (bs s), .l (l.map Rec.e), .i a.k, .i a.n, .s (bs a.s), .i b.k, .i b.n, .s (bs b.s), .l (((l.take i).filter (btw a b)).map Rec.e)]) (some (0, [.l ((l.filter (btw a b)).map Rec.e)]))
      (lres_stop (by simp [rd_R16_Scan_22_3])) (by
      intro i hi
      have hr := mayL_row hm hi
      have hg := hd_re hr
      have c1 := R01_Compare_res (hd l[i].row) a
      have c2 := R01_Compare_res (hd l[i].row) b
      have hfl : (((l.take i).filter (btw a b)).length + 1) * 32 ≤ 140737488355328 := by
        have := List.length_filter_le (btw a b) (l.take i)
        simp only [List.length_take] at this
        omega
      rw [take_succ hi, List.filter_append, List.map_append]
      generalize (l.take i).filter (btw a b) = t at hfl ⊢
      by_cases h1 : 0 ≤ cmpV (hd l[i].row) a
      · by_cases h2 : cmpV (hd l[i].row) b < 0
        · simp [rd_R16_Scan_22_3, hi, hM, hm, Rec.e, hr, hg, Val.e, c1, c2, h1, h2, hfl, w64_succ (i := i) (by omega), btw, Rec.key] 
        · simp [rd_R16_Scan_22_3, hi, hM, hm, Rec.e, hr, hg, Val.e, c1, c2, h1, h2, hfl, w64_succ (i := i) (by omega), btw, Rec.key]
      · simp [rd_R16_Scan_22_3, hi, hM, hm, Rec.e, hr, hg, Val.e, c1, c2, h1, hfl, w64_succ (i := i) (by omega), btw, Rec.key])
    simp only [Int.natCast_zero, List.take_zero, List.filter_nil, List.map_nil] at h
    simp [m_R16_Scan, h, scanL, hm]
  · have hm' : mayL l = false := by simpa using hm
    have : lres rd_R16_Scan_22_3 [.i 0, .s (bs s), .l (l.map Rec.e), .i a.k, .i a.n, .s (bs a.s), .i b.k, .i b.n, .s (bs b.s), .l []] = some (0, [.l []]) := by
      refine lres_stop ?_
      by_cases h : 0 < l.length
      · simp [rd_R16_Scan_22_3, h, hM, hm']
      · simp [rd_R16_Scan_22_3, h]
    simp [m_R16_Scan, this, scanL, hm']

end Go.Proofs.Ytinnnhiaamjjlaa

set_option linter.unusedVariables false
set_option linter.unusedSimpArgs false
namespace Go.Proofs.Ytinnnhiaamjjlaa
open Go Go.Pu

theorem emp_bs : ({ data := #[] } : ByteArray) = bs [] := rfl

theorem el_at {α : Type} (f : α → List PV) {l : List α} {i : Nat} (h : i < l.length) : el (l.map f) i = f l[i] := el_map f l h

/-! a table, by its name -/

/-! by a key -/

/-! between two keys -/

theorem scanL_sub (l : List Rec) (a b : Val) : (scanL l a b).Sublist l := by
  unfold scanL
  split
  · exact List.filter_sublist
  · exact List.nil_sublist _

/-! the same reads -/

end Go.Proofs.Ytinnnhiaamjjlaa

set_option linter.unusedVariables false
set_option linter.unusedSimpArgs false
namespace Go.Proofs.Ytinnnhiaamjjlaa
open Go Go.Pu

/-- a loop that holds two lists against each other -/
theorem loop_eq {α : Type} [DecidableEq α] {a b : List α} (hl : a.length = b.length) {rd : List U → Rt} (st : Nat → List U) (j0 j1 : Nat) (u0 u1 : List U)
    (hend : (rd (st a.length)).val = some (.stop j1 u1))
    (hstep : ∀ i (h1 : i < a.length) (h2 : i < b.length), (rd (st i)).val = if a[i] = b[i] then some (.next (st (i + 1))) else some (.stop j0 u0)) :
    lres rd (st 0) = if a = b then some (j1, u1) else some (j0, u0) := by
  rcases loop_ix a.length st (fun i => decide (a[i]? = b[i]?)) j0 j1 (fun _ => u0) u1 hend (fun i h1 _ => by
      have h2 : i < b.length := by omega
      rw [hstep i h1 h2]; simp [h1, h2]) with ⟨h1, h2⟩ | ⟨i, hi, h1, _, h2⟩
  · have he : a = b := List.ext_getElem? fun i => by
      by_cases hi : i < a.length
      · simpa using h1 i hi
      · rw [List.getElem?_eq_none (by omega), List.getElem?_eq_none (by omega)]
    rw [if_pos he, h2]
  · have he : a ≠ b := fun e => by subst e; simp at h1
    rw [if_neg he, h2]

theorem cnt_ext {x y : Cnt} : (x.n = y.n ∧ x.row = y.row) ↔ x = y := by
  obtain ⟨a, b⟩ := x
  obtain ⟨a', b'⟩ := y
  simp [And.comm]

theorem rec_ext {x y : Rec} : (x.tid = y.tid ∧ x.row = y.row) ↔ x = y := by
  obtain ⟨a, b⟩ := x
  obtain ⟨a', b'⟩ := y
  simp [And.comm]

theorem R05_Same_res {a b : List Cnt} (ha : okB a) (hb : okB b) : (m_R05_Same [.l (a.map Cnt.e), .l (b.map Cnt.e)]).res = some (0, [.b (decide (a = b))]) := by
  have h0 := ha.1
  by_cases hl : a.length = b.length
  · have h := loop_eq hl (rd := rd_R05_Same_23_4) (fun i => [.l (a.map Cnt.e), .l (b.map Cnt.e), .i (i : Nat)]) 0 1 [.b false] [] (by simp [rd_R05_Same_23_4]) (by
      intro i h1 h2
      have hc := R02_Compare_res a[i].row b[i].row (ha.2 _ (List.getElem_mem h1)).1.1
      have hz := cR.zero a[i].row b[i].row
      have hx := cnt_ext (x := a[i]) (y := b[i])
      by_cases he : a[i] = b[i]
      · have hs := cR.self b[i].row
        rw [he] at hc
        simp [rd_R05_Same_23_4, el_at _ h1, el_at _ h2, h1, h2, Cnt.e, w64_succ (i := i) (by omega), he, hc, hs]
      · by_cases hn : a[i].n = b[i].n
        · have hr : ¬ cmpR a[i].row b[i].row = 0 := fun h => he (hx.1 ⟨hn, hz.1 h⟩)
          simp [rd_R05_Same_23_4, el_at _ h1, el_at _ h2, h1, h2, Cnt.e, he, hn, hc, hr]
        · simp [rd_R05_Same_23_4, el_at _ h1, el_at _ h2, h1, h2, Cnt.e, he, hn])
    simp only [Int.natCast_zero] at h
    by_cases he : a = b
    · subst he
      simp at h
      simp [m_R05_Same, h]
    · rw [if_neg he] at h
      simp [m_R05_Same, h, hl, he]
  · have hl' : ¬ (a.length : Int) = b.length := by omega
    have he : a ≠ b := fun e => hl (by rw [e])
    simp [m_R05_Same, hl', he]

/-! a view's rows -/

def okSs (l : List Src) : Prop := l.length ≤ 4398046511104 ∧ ∀ c ∈ l, c.ok
/-! is what was read so? -/

def okSeen (s : Seen) : Prop := (s.reads.length ≤ 4398046511104 ∧ ∀ c ∈ s.reads, c.ok) ∧ (s.ranges.length ≤ 4398046511104 ∧ ∀ c ∈ s.ranges, c.ok) ∧ (s.looks.length ≤ 4398046511104 ∧ ∀ c ∈ s.looks, c.ok)
end Go.Proofs.Ytinnnhiaamjjlaa

set_option linter.unusedVariables false
set_option linter.unusedSimpArgs false
namespace Go.Proofs.Ytinnnhiaamjjlaa
open Go Go.Pu

def smallT (r : Rel) : Bool := r.recs.all (fun c => shortR c.row) && decide (r.recs.length ≤ 60) && decide (r.name.length ≤ 100)

theorem R16_Small_res {r : Rel} (hr : r.ok) : (m_R16_Small [.s (bs r.name), .l (r.recs.map Rec.e)]).res = some (0, [.b (smallT r)]) := by
  have h0 := hr.2.1
  have hl := loop_all' r.recs (rd := rd_R16_Small_8_2) (fun i => [.i (i : Nat), .s (bs r.name), .l (r.recs.map Rec.e)]) (fun c => shortR c.row) 0 1 [.b false] [.s (bs r.name), .l (r.recs.map Rec.e)] (by simp [rd_R16_Small_8_2]) (by
    intro i h
    have hs := R02_Short_res (hr.2.2 _ (List.getElem_mem h)).1
    by_cases hm : shortR r.recs[i].row = true <;> simp [rd_R16_Small_8_2, el_at _ h, h, w64_succ (i := i) (by omega), Rec.e, hs, hm])
  simp only [Int.natCast_zero] at hl
  have h60 : ((r.recs.length : Int) ≤ 60) ↔ r.recs.length ≤ 60 := by omega
  have h100 : ((r.name.length : Int) ≤ 100) ↔ r.name.length ≤ 100 := by omega
  by_cases h1 : r.recs.all (fun c => shortR c.row) = true
  · rw [if_pos h1] at hl
    by_cases h2 : r.recs.length ≤ 60 <;> simp [m_R16_Small, hl, smallT, h1, h60, h100, h2]
  · rw [if_neg h1] at hl
    have h1' : r.recs.all (fun c => shortR c.row) = false := by simpa using h1
    simp [m_R16_Small, hl, smallT, h1']

end Go.Proofs.Ytinnnhiaamjjlaa

set_option linter.unusedVariables false
set_option linter.unusedSimpArgs false
set_option linter.constructorNameAsVariable false
namespace Go.Proofs.Ytinnnhiaamjjlaa
open Go Go.Pu

theorem law_of_row {P : Program} {X : Ext} {M : FuncId → Bool} {L : FuncId → Nat → Option (List Nat)} {f : FuncId} {S : FSp} {m : List U → Rt} {xs : List PV} {us : List U} (hX : X f = some (gF S m)) (hd : decs S.ap (nrms S.ap xs) = some us)
    (ha : S.ah = []) (ho : S.outs = [([.one .b], [])]) (hr : (m us).res = some (0, [.b true])) : ∃ n hc, call P X M L n f xs [] = some (.bool true, hc) := by
  refine ⟨1, [], ?_⟩
  simp only [call, hX, gF, gW, hd, ha, decH, fU_eq, List.append_nil, ho, outsTr, Tr.val, hr, ok_some', out_some, beq_self_eq_true, if_true]
  rfl

set_option maxRecDepth 100000 in
theorem arg_int {x : PV} (h : ArgGd Try.prog 3 x) : ∃ n, x = pI n ∧ i64 n := by
  have e : ArgGd Try.prog 3 x = Gd Try.prog (.int .i64) x := by kernel_rfl
  rw [e] at h
  exact gd_int h

end Go.Proofs.Ytinnnhiaamjjlaa

set_option linter.unusedVariables false
set_option linter.unusedSimpArgs false
set_option linter.constructorNameAsVariable false
namespace Go.Proofs.Ytinnnhiaamjjlaa
open Go Go.Pu

structure Ask where
  table : List UInt8
  key : Val
  hi : Val
  s : Seen
  views : List Src

def Ask.ok (a : Ask) : Prop := a.table.length ≤ big ∧ a.key.ok ∧ a.hi.ok ∧ okSeen a.s ∧ okSs a.views

set_option maxRecDepth 100000 in
theorem arg_rel {x : PV} (h : ArgGd Try.prog 24 x) : ∃ r : Rel, x = .agg r.e ∧ r.ok := by
  have e : ArgGd Try.prog 24 x = ∃ xs, x = .agg xs ∧ Gds Try.prog [.str, .sl 35] xs := by kernel_rfl
  rw [e] at h
  obtain ⟨xs, rfl, hg⟩ := h
  obtain ⟨hl, hg⟩ := gds_cells hg
  match xs, hl, hg with
  | [a, b], _, hg =>
    obtain ⟨s, rfl, hs⟩ := gd_str (hg 0 (by decide))
    obtain ⟨l, rfl, h1, h2⟩ := gd_recs (hg 1 (by decide))
    exact ⟨⟨s, l⟩, rfl, hs, h1, h2⟩

end Go.Proofs.Ytinnnhiaamjjlaa

set_option linter.unusedVariables false
set_option linter.unusedSimpArgs false
namespace Go.Proofs.Ytinnnhiaamjjlaa
open Go Go.Pu

end Go.Proofs.Ytinnnhiaamjjlaa

set_option linter.unusedVariables false
set_option linter.unusedSimpArgs false
namespace Go.Proofs.Ytinnnhiaamjjlaa
open Go Go.Pu

/-! a record goes -/

def notK (k : Val) (c : Rec) : Bool := !decide (c.key = k)

theorem cut_loop (s : List UInt8) {l : List Rec} (hl : okL l) (hm : mayL l = true) (k : Val) :
    lres rd_R16_Cut_14_6 [.i 0, .s (bs s), .l (l.map Rec.e), .i k.k, .i k.n, .s (bs k.s), .s (bs []), .s (bs s), .l []] = some (0, [.s (bs []), .s (bs s), .l ((l.filter (notK k)).map Rec.e)]) := by
  have h0 := hl.1
  have h := loop_acc (rd := rd_R16_Cut_14_6) l.length (fun i => [.i (i : Nat), .s (bs s), .l (l.map Rec.e), .i k.k, .i k.n, .s (bs k.s), .s (bs []), .s (bs s), .l (((l.take i).filter (notK k)).map Rec.e)]) (some (0, [.s (bs []), .s (bs s), .l ((l.filter (notK k)).map Rec.e)]))
    (lres_stop (by simp [rd_R16_Cut_14_6])) (by
    intro i hi
    have hr := mayL_row hm hi
    have hg := hd_re hr
    have hv := val_ext (v := hd l[i].row) (w := k)
    have hfl : (((l.take i).filter (notK k)).length + 1) * 32 ≤ 140737488355328 := by
      have := List.length_filter_le (notK k) (l.take i)
      simp only [List.length_take] at this
      omega
    rw [take_succ hi, List.filter_append, List.map_append]
    generalize (l.take i).filter (notK k) = t at hfl ⊢
    by_cases he : hd l[i].row = k
    · rw [he] at hg
      simp [rd_R16_Cut_14_6, hi, Rec.e, hr, hg, Val.e, he, w64_succ (i := i) (by omega), notK, Rec.key]
    · have hne := fun h => he (hv.1 h)
      have hne' : ¬ ((hd l[i].row).k = k.k ∧ (hd l[i].row).n = k.n ∧ (hd l[i].row).s = k.s) := hne
      by_cases e1 : (hd l[i].row).k = k.k
      · by_cases e2 : (hd l[i].row).n = k.n
        · have e3 : ¬ (hd l[i].row).s = k.s := fun e3 => hne ⟨e1, e2, e3⟩
          simp [rd_R16_Cut_14_6, hi, Rec.e, hr, hg, Val.e, he, e3, hfl, w64_succ (i := i) (by omega), notK, Rec.key]
        · simp [rd_R16_Cut_14_6, hi, Rec.e, hr, hg, Val.e, he, e2, hfl, w64_succ (i := i) (by omega), notK, Rec.key]
      · simp [rd_R16_Cut_14_6, hi, Rec.e, hr, hg, Val.e, he, e1, hfl, w64_succ (i := i) (by omega), notK, Rec.key])
  simp only [Int.natCast_zero, List.take_zero, List.filter_nil, List.map_nil] at h
  exact h

def cutT (r : Rel) (k : Val) : Option Rel := match getL r.recs k with | some _ => some ⟨r.name, r.recs.filter (notK k)⟩ | none => none
def nameO (o : Option Rel) : List UInt8 := match o with | some r => r.name | none => []
def recsO (o : Option Rel) : List Rec := match o with | some r => r.recs | none => []

theorem getL_may {l : List Rec} {k : Val} {c : Rec} (h : getL l k = some c) : mayL l = true := by
  unfold getL at h
  split at h
  · assumption
  · cases h

theorem R16_Cut_res {r : Rel} (hr : r.ok) (k : Val) : (m_R16_Cut [.s (bs r.name), .l (r.recs.map Rec.e), .i k.k, .i k.n, .s (bs k.s)]).res =
    some (0, [.s (bs (nameO (cutT r k))), .b (cutT r k).isSome, .l ((recsO (cutT r k)).map Rec.e)]) := by
  have hg := R16_Get_res r.name (l := r.recs) hr.2 k
  cases h : getL r.recs k with
  | none =>
    rw [h] at hg
    simp [m_R16_Cut, hg, cutT, h, nameO, recsO, emp_bs]
  | some c =>
    rw [h] at hg
    have hc := cut_loop r.name (l := r.recs) hr.2 (getL_may h) k
    simp [m_R16_Cut, hg, cutT, h, nameO, recsO, emp_bs, hc]

/-! of a table that may be, some records are one that may be -/

theorem mayL_of {l : List Rec} (h1 : ∀ c ∈ l, c.right = true) (h2 : l.Pairwise (fun a b => cmpV a.key b.key < 0)) : mayL l = true := by
  rw [mayL_iff]
  intro i hi
  rw [pMay_at hi]
  simp only [Bool.and_eq_true, h1 _ (List.getElem_mem hi), true_and, Bool.or_eq_true, decide_eq_true_eq]
  by_cases h : i = 0
  · exact .inl (by simp [h])
  · exact .inr (List.pairwise_iff_getElem.1 h2 (i - 1) i (by omega) hi (by omega))

theorem mayL_pair {l : List Rec} (h : mayL l = true) : l.Pairwise (fun a b => cmpV a.key b.key < 0) :=
  List.pairwise_iff_getElem.2 fun i j hi hj hij => mayL_lt h hj hij

theorem mayL_all {l : List Rec} (h : mayL l = true) : ∀ c ∈ l, c.right = true := fun c hc => by
  obtain ⟨i, hi, rfl⟩ := List.mem_iff_getElem.1 hc
  exact mayL_right h hi

theorem mayL_filter {l : List Rec} (h : mayL l = true) (q : Rec → Bool) : mayL (l.filter q) = true :=
  mayL_of (fun c hc => mayL_all h c (List.mem_filter.1 hc).1) ((mayL_pair h).filter q)

theorem mem_key {l : List Rec} (h : mayL l = true) {c d : Rec} (hc : c ∈ l) (hd : d ∈ l) (he : c.key = d.key) : c = d := by
  obtain ⟨i, hi, rfl⟩ := List.mem_iff_getElem.1 hc
  obtain ⟨j, hj, rfl⟩ := List.mem_iff_getElem.1 hd
  rcases Nat.lt_trichotomy i j with h1 | h1 | h1
  · have := mayL_lt h hj h1; rw [he, cV.self] at this; omega
  · subst h1; rfl
  · have := mayL_lt h hi h1; rw [he, cV.self] at this; omega

theorem getL_iff {l : List Rec} (h : mayL l = true) {k : Val} {c : Rec} : getL l k = some c ↔ c ∈ l ∧ c.key = k := by
  unfold getL
  rw [if_pos h]
  constructor
  · intro hf
    have := List.find?_some hf
    exact ⟨List.mem_of_find?_eq_some hf, by simpa using this⟩
  · rintro ⟨hc, rfl⟩
    cases hf : l.find? (fun d => decide (d.key = c.key)) with
    | none =>
      rw [List.find?_eq_none] at hf
      have := hf c hc
      simp at this
    | some d =>
      have h1 := List.find?_some hf
      have h2 := List.mem_of_find?_eq_some hf
      rw [mem_key h h2 hc (by simpa using h1)]

theorem getL_none {l : List Rec} (h : mayL l = true) {k : Val} : getL l k = none ↔ ∀ c ∈ l, c.key ≠ k := by
  unfold getL
  rw [if_pos h, List.find?_eq_none]
  simp

/-! one table alone -/

end Go.Proofs.Ytinnnhiaamjjlaa

set_option linter.unusedVariables false
set_option linter.unusedSimpArgs false
namespace Go.Proofs.Ytinnnhiaamjjlaa
open Go Go.Pu

def ltK (k : Val) (d : Rec) : Bool := decide (cmpV d.key k < 0)
def gtK (k : Val) (d : Rec) : Bool := decide (0 < cmpV d.key k)
def geK (k : Val) (d : Rec) : Bool := decide (0 ≤ cmpV d.key k)
def eqK (k : Val) (d : Rec) : Bool := decide (d.key = k)

/-- what was laid so far -/
def acc (c : Rec) (t : List Rec) : List Rec := t.filter (ltK c.key) ++ (if t.any (geK c.key) = true then [c] else []) ++ t.filter (gtK c.key)
def putL (l : List Rec) (c : Rec) : List Rec := l.filter (ltK c.key) ++ c :: l.filter (gtK c.key)

theorem acc_len (c : Rec) (t : List Rec) : (acc c t).length ≤ t.length + 1 := by
  have h : ∀ t : List Rec, (t.filter (ltK c.key)).length + (t.filter (gtK c.key)).length ≤ t.length := by
    intro t
    induction t with
    | nil => simp
    | cons x t ih =>
      simp only [List.filter_cons]
      by_cases h1 : cmpV x.key c.key < 0
      · have h2 : ¬ 0 < cmpV x.key c.key := by omega
        simp [ltK, gtK, h1, h2] at ih ⊢; omega
      · by_cases h2 : 0 < cmpV x.key c.key <;> simp [ltK, gtK, h1, h2] at ih ⊢ <;> omega
  have := h t
  simp only [acc, List.length_append]
  split <;> simp <;> omega

theorem acc_lt {c : Rec} {t : List Rec} (h : ∀ d ∈ t, cmpV d.key c.key < 0) : acc c t = t ∧ t.any (geK c.key) = false := by
  have e1 : t.filter (ltK c.key) = t := by rw [List.filter_eq_self]; intro d hd; simp [ltK, h d hd]
  have e2 : t.filter (gtK c.key) = [] := by rw [List.filter_eq_nil_iff]; intro d hd; have := h d hd; simp [gtK]; omega
  have e3 : t.any (geK c.key) = false := by
    rw [List.any_eq_false]; intro d hd; have := h d hd; simp [geK]; omega
  exact ⟨by simp [acc, e1, e2, e3], e3⟩

/-- what is laid at a record of a table that rises -/
theorem acc_step {c : Rec} {t : List Rec} {x : Rec} (h : ∀ d ∈ t, cmpV d.key x.key < 0) : acc c (t ++ [x]) =
    (if 0 ≤ cmpV x.key c.key ∧ t.any (geK c.key) = false then acc c t ++ [c] else acc c t) ++ (if cmpV x.key c.key = 0 then [] else [x]) ∧
    (t ++ [x]).any (geK c.key) = (t.any (geK c.key) || geK c.key x) := by
  refine ⟨?_, by simp⟩
  by_cases h1 : cmpV x.key c.key < 0
  · have hlt : ∀ d ∈ t, cmpV d.key c.key < 0 := fun d hd => cV.lt_trans (h d hd) h1
    have hlt2 : ∀ d ∈ t ++ [x], cmpV d.key c.key < 0 := fun d hd => by
      rcases List.mem_append.1 hd with g | g
      · exact hlt d g
      · rw [List.mem_singleton.1 g]; exact h1
    rw [(acc_lt hlt2).1, (acc_lt hlt).1, if_neg (by omega), if_neg (by omega)]
  · by_cases h2 : cmpV x.key c.key = 0
    · have hlt : ∀ d ∈ t, cmpV d.key c.key < 0 := fun d hd => by
        have := h d hd
        rwa [(cV.zero _ _).1 h2] at this
      obtain ⟨e1, e2⟩ := acc_lt hlt
      have f1 : t.filter (ltK c.key) = t := by rw [List.filter_eq_self]; intro d hd; simp [ltK, hlt d hd]
      have f2 : t.filter (gtK c.key) = [] := by rw [List.filter_eq_nil_iff]; intro d hd; have := hlt d hd; simp [gtK]; omega
      rw [if_pos ⟨by omega, e2⟩, if_pos h2, e1]
      simp [acc, f1, f2, e2, ltK, gtK, geK, h2]
    · have h3 : 0 < cmpV x.key c.key := by omega
      rw [if_neg h2]
      by_cases hany : t.any (geK c.key) = true
      · rw [if_neg (by rw [hany]; simp)]
        simp [acc, hany, ltK, gtK, geK, h1, h3]
      · have hany' : t.any (geK c.key) = false := by simpa using hany
        have hlt : ∀ d ∈ t, cmpV d.key c.key < 0 := fun d hd => by
          have := List.any_eq_false.1 hany' d hd
          simp [geK] at this; omega
        have f2 : t.filter (gtK c.key) = [] := by rw [List.filter_eq_nil_iff]; intro d hd; have := hlt d hd; simp [gtK]; omega
        rw [if_pos ⟨by omega, hany'⟩]
        have h4 : 0 ≤ cmpV x.key c.key := by omega
        simp [acc, hany', f2, ltK, gtK, geK, h1, h3, h4]

theorem put_bytes {n m : Nat} (h : n ≤ m + 1) (hm : m ≤ 60) : (n + 1) * 32 ≤ 140737488355328 ∧ (n + 1 + 1) * 32 ≤ 140737488355328 := by omega

set_option maxHeartbeats 4000000 in
theorem put_loop (s : List UInt8) {l : List Rec} (hl : okL l) (hfew : l.length ≤ 60) (hm : mayL l = true) {c : Rec} (hc : c.ok) (hr : c.right = true) :
    lres rd_R16_Put_20_7 [.l (re c.row), .b false, .i 0, .s (bs s), .l (l.map Rec.e), .s (bs []), .l (re c.row), .i c.tid, .s (bs s), .l []] =
      some (0, [.b (l.any (geK c.key)), .s (bs []), .l (re c.row), .i c.tid, .s (bs s), .l ((acc c l).map Rec.e)]) := by
  have h0 := hl.1
  have hrow := right_len hr
  have hgc := hd_re hrow
  have h := loop_acc (rd := rd_R16_Put_20_7) l.length (fun i => [.l (re c.row), .b ((l.take i).any (geK c.key)), .i (i : Nat), .s (bs s), .l (l.map Rec.e), .s (bs []), .l (re c.row), .i c.tid, .s (bs s), .l ((acc c (l.take i)).map Rec.e)])
    (some (0, [.b (l.any (geK c.key)), .s (bs []), .l (re c.row), .i c.tid, .s (bs s), .l ((acc c l).map Rec.e)]))
    (lres_stop (by simp [rd_R16_Put_20_7])) (by
    intro i hi
    have hr1 := mayL_row hm hi
    have hg := hd_re hr1
    have hcm := R01_Compare_res (hd l[i].row) (hd c.row)
    have hlt : ∀ d ∈ l.take i, cmpV d.key (l[i]).key < 0 := fun d hd => by
      obtain ⟨j, hj, rfl⟩ := List.mem_iff_getElem.1 hd
      rw [List.length_take] at hj
      rw [List.getElem_take]
      exact mayL_lt hm hi (by omega)
    have hlen := acc_len c (l.take i)
    rw [List.length_take] at hlen
    obtain ⟨b1, b2⟩ := put_bytes hlen (Nat.le_trans (Nat.min_le_right _ _) hfew)
    obtain ⟨e1, e2⟩ := acc_step (c := c) hlt
    rw [take_succ hi, e1, e2]
    generalize acc c (l.take i) = t at b1 b2 ⊢
    generalize (l.take i).any (geK c.key) = w
    have hw := w64_succ (i := i) (by omega)
    by_cases c1 : 0 ≤ cmpV (hd l[i].row) (hd c.row)
    · by_cases c2 : cmpV (hd l[i].row) (hd c.row) = 0
      · cases w <;> simp [rd_R16_Put_20_7, hi, Rec.e, hr1, hrow, hg, hgc, Val.e, hcm, c1, c2, hw, b1, b2, Rec.key, geK]
      · cases w <;> simp [rd_R16_Put_20_7, hi, Rec.e, hr1, hrow, hg, hgc, Val.e, hcm, c1, c2, hw, b1, b2, Rec.key, geK]
    · have c2 : ¬ cmpV (hd l[i].row) (hd c.row) = 0 := by omega
      cases w <;> simp [rd_R16_Put_20_7, hi, Rec.e, hr1, hrow, hg, hgc, Val.e, hcm, c1, c2, hw, b1, b2, Rec.key, geK])
  simp only [Int.natCast_zero, List.take_zero] at h
  exact h

theorem acc_put {l : List Rec} (hm : mayL l = true) (c : Rec) : acc c l ++ (if l.any (geK c.key) = true then [] else [c]) = putL l c := by
  by_cases h : l.any (geK c.key) = true
  · simp [acc, putL, h]
  · have h' : l.any (geK c.key) = false := by simpa using h
    have hlt : ∀ d ∈ l, cmpV d.key c.key < 0 := fun d hd => by
      have := List.any_eq_false.1 h' d hd
      simp [geK] at this; omega
    have f1 : l.filter (ltK c.key) = l := by rw [List.filter_eq_self]; intro d hd; simp [ltK, hlt d hd]
    have f2 : l.filter (gtK c.key) = [] := by rw [List.filter_eq_nil_iff]; intro d hd; have := hlt d hd; simp [gtK]; omega
    rw [(acc_lt hlt).1, h']
    simp [putL, f1, f2]

theorem R16_Put_res {r : Rel} (hr : r.ok) (hfew : r.recs.length ≤ 60) (hm : mayL r.recs = true) {c : Rec} (hc : c.ok) (hright : c.right = true) :
    (m_R16_Put [.s (bs r.name), .l (r.recs.map Rec.e), .l (re c.row), .i c.tid]).res = some (0, [.s (bs r.name), .l ((putL r.recs c).map Rec.e)]) := by
  have h1 := R16_May_res r.name r.recs hr.2
  have h2 := R16_Right_res c hc
  have h3 := put_loop r.name hr.2 hfew hm hc hright
  have h4 := acc_put hm c
  have hlen := acc_len c r.recs
  have hl := hr.2.1
  have b1 := (put_bytes hlen hfew).1
  rw [← h4]
  by_cases h : r.recs.any (geK c.key) = true
  · rw [h] at h3
    simp [m_R16_Put, h1, hm, h2, hright, emp_bs, h3, h]
  · have h' : r.recs.any (geK c.key) = false := by simpa using h
    rw [h'] at h3
    simp [m_R16_Put, h1, hm, h2, hright, emp_bs, h3, h', b1, Rec.e]

/-! what a table with a record more is -/

theorem sorted_parts {l : List Rec} (hp : l.Pairwise (fun a b => cmpV a.key b.key < 0)) (k : Val) : l = l.filter (ltK k) ++ (l.filter (eqK k) ++ l.filter (gtK k)) := by
  induction l with
  | nil => rfl
  | cons x t ih =>
    obtain ⟨p1, p2⟩ := List.pairwise_cons.1 hp
    have ih := ih p2
    by_cases h1 : cmpV x.key k < 0
    · have a1 : ltK k x = true := decide_eq_true h1
      have a2 : eqK k x = false := decide_eq_false fun e => by rw [e, cV.self] at h1; omega
      have a3 : gtK k x = false := decide_eq_false (by omega)
      simp only [List.filter_cons, a1, a2, a3, if_true, Bool.false_eq_true, if_false, List.cons_append]
      rw [← ih]
    · have hgt : ∀ d ∈ t, 0 < cmpV d.key k := fun d hd => by
        have h2 := p1 d hd
        have h3 := cV.anti d.key x.key
        have h4 := cV.anti d.key k
        have h5 := cV.anti x.key k
        have h6 := cV.lt_of_le_of_lt (show cmpV k x.key ≤ 0 by omega) h2
        omega
      have f1 : t.filter (ltK k) = [] := by rw [List.filter_eq_nil_iff]; intro d hd; have := hgt d hd; simp [ltK]; omega
      have f2 : t.filter (eqK k) = [] := by
        rw [List.filter_eq_nil_iff]; intro d hd h
        have := hgt d hd
        simp only [eqK, decide_eq_true_eq] at h
        rw [h, cV.self] at this; omega
      have f3 : t.filter (gtK k) = t := by rw [List.filter_eq_self]; intro d hd; simp [gtK, hgt d hd]
      have a1 : ltK k x = false := decide_eq_false h1
      by_cases h2 : x.key = k
      · have a2 : eqK k x = true := decide_eq_true h2
        have a3 : gtK k x = false := decide_eq_false (by rw [h2, cV.self]; omega)
        simp [List.filter_cons, a1, a2, a3, f1, f2, f3]
      · have a2 : eqK k x = false := decide_eq_false h2
        have a3 : gtK k x = true := decide_eq_true (by
          have : cmpV x.key k ≠ 0 := fun e => h2 ((cV.zero _ _).1 e)
          omega)
        simp [List.filter_cons, a1, a2, a3, f1, f2, f3]

theorem putL_may {l : List Rec} (hm : mayL l = true) {c : Rec} (hr : c.right = true) : mayL (putL l c) = true := by
  refine mayL_of (fun d hd => ?_) ?_
  · rcases List.mem_append.1 hd with h | h
    · exact mayL_all hm d (List.mem_filter.1 h).1
    · rcases List.mem_cons.1 h with rfl | h
      · exact hr
      · exact mayL_all hm d (List.mem_filter.1 h).1
  · have hp := mayL_pair hm
    unfold putL
    rw [List.pairwise_append]
    have hgt : ∀ d ∈ l.filter (gtK c.key), cmpV c.key d.key < 0 := fun d hd => by
      have := (List.mem_filter.1 hd).2
      simp only [gtK, decide_eq_true_eq] at this
      have h2 := cV.anti d.key c.key
      omega
    have hlt : ∀ d ∈ l.filter (ltK c.key), cmpV d.key c.key < 0 := fun d hd => by
      have := (List.mem_filter.1 hd).2
      simpa only [ltK, decide_eq_true_eq] using this
    refine ⟨hp.filter _, List.pairwise_cons.2 ⟨hgt, hp.filter _⟩, fun a ha b hb => ?_⟩
    rcases List.mem_cons.1 hb with rfl | hb
    · exact hlt a ha
    · exact cV.lt_trans (hlt a ha) (hgt b hb)

theorem getL_put {l : List Rec} (hm : mayL l = true) {c : Rec} (hr : c.right = true) (k : Val) : getL (putL l c) k = if k = c.key then some c else getL l k := by
  have hm2 := putL_may hm hr
  split
  · rename_i h
    subst h
    exact (getL_iff hm2).2 ⟨by simp [putL], rfl⟩
  · rename_i hk
    have hmem : ∀ d : Rec, d.key = k → (d ∈ putL l c ↔ d ∈ l) := fun d hd => by
      have hne : cmpV d.key c.key ≠ 0 := fun e => hk (by rw [← hd]; exact (cV.zero _ _).1 e)
      have hdc : d ≠ c := fun e => hk (by rw [← hd, e])
      simp only [putL, List.mem_append, List.mem_filter, List.mem_cons, hdc, false_or, ltK, gtK, decide_eq_true_eq]
      constructor
      · rintro (⟨h, _⟩ | ⟨h, _⟩) <;> exact h
      · intro h
        by_cases h1 : cmpV d.key c.key < 0
        · exact .inl ⟨h, h1⟩
        · exact .inr ⟨h, by omega⟩
    cases hg : getL l k with
    | none =>
      rw [getL_none hm] at hg
      rw [getL_none hm2]
      intro d hd e
      exact hg d ((hmem d e).1 hd) e
    | some d =>
      rw [getL_iff hm] at hg
      rw [getL_iff hm2]
      exact ⟨(hmem d hg.2).2 hg.1, hg.2⟩

end Go.Proofs.Ytinnnhiaamjjlaa

set_option linter.unusedVariables false
set_option linter.unusedSimpArgs false
namespace Go.Proofs.Ytinnnhiaamjjlaa
open Go Go.Pu

theorem own_loop {l : List Rec} (hl : okL l) (hm : mayL l = true) (k : Val) : ∀ (d i j : Nat), j - i = d → i ≤ j → j ≤ l.length →
    (∀ q (h : q < l.length), q < i → cmpV (l[q]).key k < 0) → (∀ q (h : q < l.length), j ≤ q → 0 ≤ cmpV (l[q]).key k) →
    ∃ p, At l k p ∧ lres rd_find_own_44_3 [.i l.length, .i (i : Nat), .i (j : Nat), .l (l.map Rec.e), .i k.k, .i k.n, .s (bs k.s)] = some (0, [.i l.length, .i (p : Nat), .l (l.map Rec.e), .i k.k, .i k.n, .s (bs k.s)]) := by
  have h0 := hl.1
  intro d
  induction d using Nat.strongRecOn with
  | ind d ih =>
    intro i j hdd hij hj h1 h2
    by_cases he : i = j
    · subst he
      refine ⟨i, ⟨hj, h1, h2⟩, lres_stop ?_⟩
      simp [rd_find_own_44_3]
    · have hlt : i < j := by omega
      have hmid := mid_eq (i := i) (j := j) (by omega) (by omega)
      generalize hh : (i + j) / 2 = m at hmid
      have hm1 : m < l.length := by omega
      have hr := mayL_row hm hm1
      have hg := hd_re hr
      have hc := value_Compare_res (hd l[m].row) k
      have hw := w64_succ (i := m) (by omega)
      by_cases hcm : cmpV (hd l[m].row) k < 0
      · obtain ⟨p, p1, p2⟩ := ih (j - (m + 1)) (by omega) (m + 1) j rfl (by omega) hj (fun q hq hqi => by
          by_cases hqm : q = m
          · subst hqm; exact hcm
          · exact cV.lt_trans (mayL_lt hm hm1 (show q < m by omega)) hcm) h2
        refine ⟨p, p1, ?_⟩
        rw [← p2]
        refine lres_next ?_
        simp [rd_find_own_44_3, hmid, hm1, Rec.e, hr, hg, Val.e, hc, hcm, hlt, hw]
      · obtain ⟨p, p1, p2⟩ := ih (m - i) (by omega) i m rfl (by omega) (by omega) h1 (fun q hq hqi => by
          by_cases hqm : q = m
          · subst hqm; show 0 ≤ cmpV (hd l[q].row) k; omega
          · have := mayL_lt hm hq (show m < q by omega)
            have a := cV.anti (l[m]).key (l[q]).key
            have hcm' : 0 ≤ cmpV (l[m]).key k := by show 0 ≤ cmpV (hd l[m].row) k; omega
            have b := cV.anti (l[m]).key k
            have c := cV.anti (l[q]).key k
            by_cases h3 : cmpV (l[q]).key k < 0
            · have := cV.lt_trans this h3
              omega
            · omega)
        refine ⟨p, p1, ?_⟩
        rw [← p2]
        refine lres_next ?_
        simp [rd_find_own_44_3, hmid, hm1, Rec.e, hr, hg, Val.e, hc, hcm, hlt]

theorem find_own_res (s : List UInt8) {l : List Rec} (hl : okL l) (hm : mayL l = true) (k : Val) :
    ∃ p, At l k p ∧ (m_find_own [.s (bs s), .i k.k, .i k.n, .s (bs k.s), .l (l.map Rec.e)]).res = some (0, [.i (p : Nat), .b (decide (∃ h : p < l.length, (l[p]).key = k)), .l (l.map Rec.e)]) := by
  obtain ⟨p, p1, p2⟩ := own_loop hl hm k l.length 0 l.length (by omega) (by omega) (Nat.le_refl _) (fun q _ h => by omega) (fun q h h2 => by omega)
  refine ⟨p, p1, ?_⟩
  simp only [Int.natCast_zero] at p2
  by_cases hp : p < l.length
  · have hr := mayL_row hm hp
    have hg := hd_re hr
    have hc := value_Compare_res (hd l[p].row) k
    have hz := cV.zero (hd l[p].row) k
    by_cases he : hd l[p].row = k
    · have hz' := hz.2 he
      rw [decide_eq_true (show ∃ h : p < l.length, (l[p]).key = k from ⟨hp, he⟩)]
      simp [m_find_own, p2, hp, Rec.e, hr, hg, Val.e, hc, hz']
    · have hz' : ¬ cmpV (hd l[p].row) k = 0 := fun e => he (hz.1 e)
      rw [decide_eq_false (show ¬ ∃ h : p < l.length, (l[p]).key = k from fun ⟨_, e⟩ => he e)]
      simp [m_find_own, p2, hp, Rec.e, hr, hg, Val.e, hc, hz']
  · simp [m_find_own, p2, hp]

/-! where a key is, and what is ahead of it, and behind -/

theorem At.lt {l : List Rec} {k : Val} {p : Nat} (h : At l k p) : l.filter (ltK k) = l.take p := by
  have := filter_mid (ltK k) l 0 p (Nat.zero_le _) h.le fun i hi => by
    by_cases e : i < p
    · simp [ltK, h.lo i hi e, e]
    · have := h.hi i hi (by omega)
      have h2 : ¬ cmpV (l[i]).key k < 0 := by omega
      simp [ltK, h2, e]
  simpa using this

theorem At.gt_some {l : List Rec} (hm : mayL l = true) {k : Val} {p : Nat} (h : At l k p) (hp : p < l.length) (he : (l[p]).key = k) : l.filter (gtK k) = l.drop (p + 1) := by
  have := filter_mid (gtK k) l (p + 1) l.length (by omega) (Nat.le_refl _) fun i hi => by
    by_cases e : p + 1 ≤ i
    · have h1 := mayL_lt hm hi (show p < i by omega)
      rw [he] at h1
      have h2 := cV.anti (l[i]).key k
      have h3 : 0 < cmpV (l[i]).key k := by omega
      simp [gtK, h3, e, hi]
    · have h3 : ¬ 0 < cmpV (l[i]).key k := by
        by_cases e2 : i = p
        · subst e2; rw [he, cV.self]; omega
        · have := h.lo i hi (by omega); omega
      simp [gtK, h3]; omega
  rw [this, List.take_of_length_le (by simp)]

theorem At.gt_none {l : List Rec} (hm : mayL l = true) {k : Val} {p : Nat} (h : At l k p) (hn : ¬ ∃ hp : p < l.length, (l[p]).key = k) : l.filter (gtK k) = l.drop p := by
  have := filter_mid (gtK k) l p l.length h.le (Nat.le_refl _) fun i hi => by
    by_cases e : p ≤ i
    · have h1 := h.hi i hi e
      have h2 : cmpV (l[i]).key k ≠ 0 := by
        intro h0
        have hk := (cV.zero _ _).1 h0
        by_cases e2 : i = p
        · subst e2; exact hn ⟨hi, hk⟩
        · have hp : p < l.length := by omega
          have h3 := mayL_lt hm hi (show p < i by omega)
          rw [hk] at h3
          have h4 := h.hi p hp (Nat.le_refl _)
          omega
      have h3 : 0 < cmpV (l[i]).key k := by omega
      simp [gtK, h3, e, hi]
    · have := h.lo i hi (by omega)
      have h3 : ¬ 0 < cmpV (l[i]).key k := by omega
      simp [gtK, h3]; omega
  rw [this, List.take_of_length_le (by simp)]

theorem put_some {l : List Rec} (hm : mayL l = true) {c : Rec} {p : Nat} (h : At l c.key p) (hp : p < l.length) (he : (l[p]).key = c.key) : putL l c = l.set p c := by
  rw [putL, h.lt, h.gt_some hm hp he, List.set_eq_take_append_cons_drop, if_pos hp]

theorem put_none {l : List Rec} (hm : mayL l = true) {c : Rec} {p : Nat} (h : At l c.key p) (hn : ¬ ∃ hp : p < l.length, (l[p]).key = c.key) : putL l c = l.take p ++ c :: l.drop p := by
  rw [putL, h.lt, h.gt_none hm hn]

theorem ins_map (l : List Rec) (p : Nat) (c : Rec) : insL (l.map Rec.e) (p : Int) (Rec.e c) = (l.take p ++ c :: l.drop p).map Rec.e := by
  simp [insL, List.map_take, List.map_drop]

theorem del_map (l : List Rec) (p : Nat) : delL (l.map Rec.e) (p : Int) = (l.take p ++ l.drop (p + 1)).map Rec.e := by
  simp [delL, List.map_take, List.map_drop]

def putT (r : Rel) (c : Rec) : Rel := if mayL r.recs = true ∧ c.right = true then ⟨r.name, putL r.recs c⟩ else ⟨[], []⟩

theorem rel_Put_res {r : Rel} (hr : r.ok) (hfew : r.recs.length ≤ 1000000) {c : Rec} (hc : c.ok) :
    (m_rel_Put [.s (bs r.name), .l (r.recs.map Rec.e), .l (re c.row), .i c.tid]).res = some (0, [.s (bs (putT r c).name), .l ((putT r c).recs.map Rec.e)]) := by
  have hM := rel_May_res r.name r.recs hr.2
  have hR := rel_right_res c hc
  have ho := okR_bytes hc.1
  rw [Nat.zero_add] at ho
  by_cases hm : mayL r.recs = true
  · by_cases hq : c.right = true
    · have hrow := right_len hq
      have hg := hd_re hrow
      have hr1 : 0 < (re c.row).length := by simpa [re] using hrow
      have hr2 : ¬ re c.row = [] := fun e => by rw [e] at hr1; simp at hr1
      have hs := rel_some_res hr.2
      obtain ⟨p, p1, p2⟩ := find_own_res r.name hr.2 hm c.key
      have e1 : putT r c = ⟨r.name, putL r.recs c⟩ := by rw [putT, if_pos ⟨hm, hq⟩]
      have e2 : c.key = hd c.row := rfl
      rw [e2] at p2
      rw [e1]
      by_cases he : ∃ hp : p < r.recs.length, (r.recs[p]).key = c.key
      · obtain ⟨hp, hk⟩ := he
        rw [decide_eq_true (⟨hp, hk⟩ : ∃ hp : p < r.recs.length, (r.recs[p]).key = hd c.row)] at p2
        have e3 : (putL r.recs c).map Rec.e = (r.recs.map Rec.e).set p (Rec.e c) := by rw [put_some hm p1 hp hk, List.map_set]
        have e4 : ∀ d : Rec, setCells (Rec.e d) 0 [PV.lst 28 (re c.row), pI c.tid] = Rec.e c := fun d => rfl
        rw [e3]
        simp [m_rel_Put, hM, hm, hR, hq, hs, hrow, hg, Val.e, p2, hp, e4]
        exact ⟨ho, hr2⟩
      · rw [decide_eq_false (show ¬ ∃ hp : p < r.recs.length, (r.recs[p]).key = hd c.row from he)] at p2
        have hi := ins_map r.recs p c
        have e5 : Rec.e c = [PV.lst 28 (re c.row), pI c.tid] := rfl
        rw [e5] at hi
        have h1 := p1.le
        have h2 : ((r.recs.length : Int) + 1) * 32 ≤ 140737488355328 := by omega
        have h3 : (p : Int) ≤ (r.recs.length : Int) := by omega
        rw [put_none hm p1 he, ← hi]
        simp [m_rel_Put, hM, hm, hR, hq, hs, hrow, hg, Val.e, p2, h2, h3, ln, h1]
        exact ⟨ho, hr1, hr2⟩
    · have hq' : c.right = false := by simpa using hq
      have e1 : putT r c = ⟨[], []⟩ := by rw [putT, if_neg fun h => hq h.2]
      rw [e1]
      simp [m_rel_Put, hM, hm, hR, hq', ho, emp_bs]
  · have hm' : mayL r.recs = false := by simpa using hm
    have e1 : putT r c = ⟨[], []⟩ := by rw [putT, if_neg fun h => hm h.1]
    rw [e1]
    simp [m_rel_Put, hM, hm', ho, emp_bs]

theorem R16_Put_res' {r : Rel} (hr : r.ok) (hfew : r.recs.length ≤ 60) {c : Rec} (hc : c.ok) :
    (m_R16_Put [.s (bs r.name), .l (r.recs.map Rec.e), .l (re c.row), .i c.tid]).res = some (0, [.s (bs (putT r c).name), .l ((putT r c).recs.map Rec.e)]) := by
  by_cases hm : mayL r.recs = true
  · by_cases hq : c.right = true
    · rw [R16_Put_res hr hfew hm hc hq, putT, if_pos ⟨hm, hq⟩]
    · have h1 := R16_May_res r.name r.recs hr.2
      have h2 := R16_Right_res c hc
      have hq' : c.right = false := by simpa using hq
      rw [putT, if_neg fun h => hq h.2]
      simp [m_R16_Put, h1, hm, h2, hq', emp_bs]
  · have h1 := R16_May_res r.name r.recs hr.2
    have hm' : mayL r.recs = false := by simpa using hm
    rw [putT, if_neg fun h => hm h.1]
    simp [m_R16_Put, h1, hm', emp_bs]

theorem cut_at {l : List Rec} (hm : mayL l = true) {k : Val} {p : Nat} (h : At l k p) (hp : p < l.length) (he : (l[p]).key = k) : l.filter (notK k) = l.take p ++ l.drop (p + 1) := by
  have hs : l = l.take p ++ l[p] :: l.drop (p + 1) := by rw [← List.drop_eq_getElem_cons hp, List.take_append_drop]
  have h1 : ∀ d ∈ l.take p, notK k d = true := fun d hd => by
    rw [← h.lt] at hd
    have := (List.mem_filter.1 hd).2
    simp only [ltK, decide_eq_true_eq] at this
    simp only [notK, Bool.not_eq_true', decide_eq_false_iff_not]
    intro e
    rw [e, cV.self] at this; omega
  have h2 : ∀ d ∈ l.drop (p + 1), notK k d = true := fun d hd => by
    rw [← h.gt_some hm hp he] at hd
    have := (List.mem_filter.1 hd).2
    simp only [gtK, decide_eq_true_eq] at this
    simp only [notK, Bool.not_eq_true', decide_eq_false_iff_not]
    intro e
    rw [e, cV.self] at this; omega
  have h3 : notK k l[p] = false := by simp [notK, he]
  conv => lhs; rw [hs]
  rw [List.filter_append, List.filter_cons, h3, List.filter_eq_self.2 h1, List.filter_eq_self.2 h2]
  rfl

theorem rel_Cut_res {r : Rel} (hr : r.ok) (hfew : r.recs.length ≤ 1000000) (k : Val) : (m_rel_Cut [.s (bs r.name), .l (r.recs.map Rec.e), .i k.k, .i k.n, .s (bs k.s)]).res =
    some (0, [.s (bs (nameO (cutT r k))), .b (cutT r k).isSome, .l ((recsO (cutT r k)).map Rec.e)]) := by
  have hM := rel_May_res r.name r.recs hr.2
  by_cases hm : mayL r.recs = true
  · obtain ⟨p, p1, p2⟩ := rel_find_res r.name hr.2 hm k
    have hs := rel_some_res hr.2
    have hf := find_at hm p1
    by_cases he : ∃ hp : p < r.recs.length, (r.recs[p]).key = k
    · obtain ⟨hp, hk⟩ := he
      rw [decide_eq_true (⟨hp, hk⟩ : ∃ hp : p < r.recs.length, (r.recs[p]).key = k)] at p2
      rw [dif_pos ⟨hp, hk⟩] at hf
      have hg : getL r.recs k = some r.recs[p] := by rw [getL, if_pos hm, hf]
      have hd := del_map r.recs p
      rw [← cut_at hm p1 hp hk] at hd
      have h2 : ((r.recs.length : Int) + 1) * 32 ≤ 140737488355328 := by omega
      have hw := w64_succ (i := p) (by omega)
      simp [m_rel_Cut, hM, hm, p2, hs, cutT, hg, nameO, recsO, hp, ln, hd, h2, hw]
    · rw [decide_eq_false he] at p2
      rw [dif_neg he] at hf
      have hg : getL r.recs k = none := by rw [getL, if_pos hm, hf]
      simp [m_rel_Cut, hM, hm, p2, cutT, hg, nameO, recsO, emp_bs]
  · have hm' : mayL r.recs = false := by simpa using hm
    have hg : getL r.recs k = none := by rw [getL, if_neg hm]
    simp [m_rel_Cut, hM, hm', cutT, hg, nameO, recsO, emp_bs]

end Go.Proofs.Ytinnnhiaamjjlaa

set_option linter.unusedVariables false
set_option linter.unusedSimpArgs false
namespace Go.Proofs.Ytinnnhiaamjjlaa
open Go Go.Pu

/-- how often a row is there -/
def cnt : List Cnt → List Val → Int
  | [], _ => 0
  | c :: l, r => (if c.row = r then c.n else 0) + cnt l r

@[simp] theorem cnt_nil (r : List Val) : cnt [] r = 0 := rfl
theorem cnt_cons (c : Cnt) (l : List Cnt) (r : List Val) : cnt (c :: l) r = (if c.row = r then c.n else 0) + cnt l r := rfl
theorem cnt_app (a b : List Cnt) (r : List Val) : cnt (a ++ b) r = cnt a r + cnt b r := by
  induction a with
  | nil => simp
  | cons c a ih => rw [List.cons_append, cnt_cons, cnt_cons, ih]; omega
theorem cnt_perm {a b : List Cnt} (h : a.Perm b) (r : List Val) : cnt a r = cnt b r := by
  induction h with
  | nil => rfl
  | cons x _ ih => rw [cnt_cons, cnt_cons, ih]
  | swap x y l => rw [cnt_cons, cnt_cons, cnt_cons, cnt_cons]; omega
  | trans _ _ h1 h2 => rw [h1, h2]
theorem cnt_not {b : List Cnt} {r : List Val} (h : ∀ c ∈ b, c.row ≠ r) : cnt b r = 0 := by
  induction b with
  | nil => rfl
  | cons c b ih => rw [cnt_cons, if_neg (h c (List.mem_cons_self ..)), ih fun d hd => h d (List.mem_cons_of_mem _ hd)]; rfl

def rising (b : List Cnt) : Prop := b.Pairwise fun x y => cmpR x.row y.row < 0
def canon (b : List Cnt) : Prop := rising b ∧ ∀ c ∈ b, c.n ≠ 0

theorem lt_ne {a b : List Val} (h : cmpR a b < 0) : a ≠ b := fun e => by
  have := (cR.zero a b).2 e
  omega

theorem cnt_mem {b : List Cnt} (h : rising b) {c : Cnt} (hc : c ∈ b) : cnt b c.row = c.n := by
  induction b with
  | nil => cases hc
  | cons d b ih =>
    obtain ⟨h1, h2⟩ := List.pairwise_cons.1 h
    rw [cnt_cons]
    rcases List.mem_cons.1 hc with rfl | hc
    · rw [if_pos rfl, cnt_not fun e he => (lt_ne (h1 e he)).symm]; omega
    · rw [if_neg (lt_ne (h1 c hc)), ih h2 hc]; omega

theorem cnt_ne {b : List Cnt} {r : List Val} (h : cnt b r ≠ 0) : ∃ c ∈ b, c.row = r := by
  by_cases e : ∃ c ∈ b, c.row = r
  · exact e
  · exact absurd (cnt_not fun c hc he => e ⟨c, hc, he⟩) h

theorem cntE {c d : Cnt} (h1 : c.row = d.row) (h2 : c.n = d.n) : c = d := by
  obtain ⟨_, _⟩ := c; obtain ⟨_, _⟩ := d; simp only at h1 h2; subst h1; subst h2; rfl

theorem rising_ext : ∀ {a b : List Cnt}, rising a → rising b → (∀ c, c ∈ a ↔ c ∈ b) → a = b
  | [], [], _, _, _ => rfl
  | [], d :: b, _, _, h => by have := (h d).2 (List.mem_cons_self ..); cases this
  | c :: a, [], _, _, h => by have := (h c).1 (List.mem_cons_self ..); cases this
  | c :: a, d :: b, ha, hb, h => by
    obtain ⟨a1, a2⟩ := List.pairwise_cons.1 ha
    obtain ⟨b1, b2⟩ := List.pairwise_cons.1 hb
    have e : c = d := by
      rcases List.mem_cons.1 ((h c).1 (List.mem_cons_self ..)) with e | h1
      · exact e
      · rcases List.mem_cons.1 ((h d).2 (List.mem_cons_self ..)) with e | h2
        · exact e.symm
        · have x1 := b1 c h1
          have x2 := a1 d h2
          have := cR.anti c.row d.row
          omega
    subst e
    rw [rising_ext a2 b2 fun x => by
      constructor
      · intro hx
        rcases List.mem_cons.1 ((h x).1 (List.mem_cons_of_mem _ hx)) with rfl | h1
        · exact absurd rfl (lt_ne (a1 x hx))
        · exact h1
      · intro hx
        rcases List.mem_cons.1 ((h x).2 (List.mem_cons_of_mem _ hx)) with rfl | h1
        · exact absurd rfl (lt_ne (b1 x hx))
        · exact h1]

/-- bags that rise are the same if each row is there as often -/
theorem canon_ext {a b : List Cnt} (ha : canon a) (hb : canon b) (h : ∀ r, cnt a r = cnt b r) : a = b := by
  have key : ∀ {a b : List Cnt}, canon a → canon b → (∀ r, cnt a r = cnt b r) → ∀ c, c ∈ a → c ∈ b := by
    intro a b ha hb h c hc
    have h1 := cnt_mem ha.1 hc
    have h2 := ha.2 c hc
    obtain ⟨d, hd, e⟩ := cnt_ne (b := b) (r := c.row) (by rw [← h, h1]; exact h2)
    have h3 := cnt_mem hb.1 hd
    rw [e, ← h, h1] at h3
    rw [cntE e.symm h3]; exact hd
  exact rising_ext ha.1 hb.1 fun c => ⟨key ha hb h c, key hb ha (fun r => (h r).symm) c⟩

theorem canon_nil : canon [] := ⟨List.Pairwise.nil, fun _ h => by cases h⟩

/-! what stands together -/

def sumN (l : List Cnt) : Int := (l.map Cnt.n).sum
def absN : List Cnt → Nat
  | [] => 0
  | c :: l => c.n.natAbs + absN l
theorem absN_app (a b : List Cnt) : absN (a ++ b) = absN a + absN b := by
  induction a with
  | nil => simp [absN]
  | cons c a ih => rw [List.cons_append]; simp only [absN, ih]; omega
theorem absN_perm {a b : List Cnt} (h : a.Perm b) : absN a = absN b := by
  induction h with
  | nil => rfl
  | cons x _ ih => simp only [absN, ih]
  | swap x y l => simp only [absN]; omega
  | trans _ _ h1 h2 => rw [h1, h2]
def one1 (r : List Val) (n : Int) : List Cnt := if n ≠ 0 then [⟨r, n⟩] else []
theorem cnt_one (r q : List Val) (n : Int) : cnt (one1 r n) q = if r = q then n else 0 := by
  unfold one1
  split
  · simp [cnt]
  · rename_i h
    have : n = 0 := by omega
    subst this
    simp
theorem one_mem {r : List Val} {n : Int} {c : Cnt} (h : c ∈ one1 r n) : c.row = r ∧ c.n = n ∧ n ≠ 0 := by
  unfold one1 at h
  split at h
  · rename_i hn; rw [List.mem_singleton] at h; subst h; exact ⟨rfl, rfl, hn⟩
  · cases h

/-- counts of rows that stand side by side, together (n: at least the length) -/
def grp : Nat → List Cnt → List Cnt
  | 0, _ => []
  | _ + 1, [] => []
  | n + 1, c :: l => one1 c.row (c.n + sumN (l.takeWhile fun d => decide (d.row = c.row))) ++ grp n (l.dropWhile fun d => decide (d.row = c.row))

theorem cnt_same {l : List Cnt} {q r : List Val} (h : ∀ c ∈ l, c.row = q) : cnt l r = if q = r then sumN l else 0 := by
  induction l with
  | nil => simp [sumN]
  | cons c l ih =>
    rw [cnt_cons, ih fun d hd => h d (List.mem_cons_of_mem _ hd), h c (List.mem_cons_self ..)]
    unfold sumN
    split <;> simp

theorem dropWhile_len {α : Type} (p : α → Bool) (l : List α) : (l.dropWhile p).length ≤ l.length := (List.dropWhile_sublist p).length_le

theorem takeWhile_mem {α : Type} {p : α → Bool} : ∀ {l : List α} {x : α}, x ∈ l.takeWhile p → p x = true
  | [], x, h => by cases h
  | y :: l, x, h => by
    rw [List.takeWhile_cons] at h
    split at h
    · rename_i hp
      rcases List.mem_cons.1 h with rfl | h
      · exact hp
      · exact takeWhile_mem h
    · cases h
theorem dropWhile_hd {α : Type} {p : α → Bool} : ∀ {l m : List α} {x : α}, l.dropWhile p = x :: m → p x = false
  | [], m, x, h => by cases h
  | y :: l, m, x, h => by
    rw [List.dropWhile_cons] at h
    split at h
    · exact dropWhile_hd h
    · rename_i hp
      injection h with h1 _
      subst h1
      simpa using hp

theorem grp_cnt : ∀ (n : Nat) (l : List Cnt) (r : List Val), l.length ≤ n → cnt (grp n l) r = cnt l r
  | 0, l, r, h => by
    have e : l = [] := List.eq_nil_of_length_eq_zero (by omega)
    subst e; rfl
  | n + 1, [], r, h => rfl
  | n + 1, c :: l, r, h => by
    simp only [List.length_cons] at h
    have h1 := grp_cnt n (l.dropWhile fun d => decide (d.row = c.row)) r (Nat.le_trans (dropWhile_len _ _) (by omega))
    have h2 := cnt_same (l := l.takeWhile fun d => decide (d.row = c.row)) (q := c.row) (r := r) fun d hd => by
      have := takeWhile_mem hd
      simpa using this
    have h3 := cnt_app (l.takeWhile fun d => decide (d.row = c.row)) (l.dropWhile fun d => decide (d.row = c.row)) r
    rw [List.takeWhile_append_dropWhile] at h3
    rw [grp, cnt_app, h1, cnt_one, cnt_cons, h3, h2]
    split <;> omega

theorem grp_row : ∀ (n : Nat) (l : List Cnt) (c : Cnt), c ∈ grp n l → (∃ d ∈ l, d.row = c.row) ∧ c.n ≠ 0
  | 0, l, c, h => by cases h
  | n + 1, [], c, h => by cases h
  | n + 1, d :: l, c, h => by
    rw [grp] at h
    rcases List.mem_append.1 h with h | h
    · obtain ⟨h1, h2, h3⟩ := one_mem h
      exact ⟨⟨d, List.mem_cons_self .., h1.symm⟩, by rw [h2]; exact h3⟩
    · obtain ⟨⟨e, h1, h2⟩, h3⟩ := grp_row n _ c h
      exact ⟨⟨e, List.mem_cons_of_mem _ ((List.dropWhile_sublist _).subset h1), h2⟩, h3⟩

theorem grp_rising : ∀ (n : Nat) (l : List Cnt), l.Pairwise (fun x y => cmpR x.row y.row ≤ 0) → rising (grp n l)
  | 0, l, _ => List.Pairwise.nil
  | n + 1, [], _ => List.Pairwise.nil
  | n + 1, c :: l, h => by
    obtain ⟨h1, h2⟩ := List.pairwise_cons.1 h
    have h3 : (l.dropWhile fun d => decide (d.row = c.row)).Pairwise (fun x y => cmpR x.row y.row ≤ 0) := h2.sublist (List.dropWhile_sublist _)
    have h4 : ∀ d ∈ l.dropWhile (fun d => decide (d.row = c.row)), cmpR c.row d.row < 0 := by
      intro d hd
      cases hw : l.dropWhile (fun d => decide (d.row = c.row)) with
      | nil => rw [hw] at hd; cases hd
      | cons e m =>
        have e1 : ¬ e.row = c.row := by
          have h9 := dropWhile_hd hw
          simpa using h9
        have e2 : cmpR c.row e.row ≤ 0 := h1 e ((List.dropWhile_sublist _).subset (by rw [hw]; exact List.mem_cons_self ..))
        have e3 : cmpR c.row e.row < 0 := by
          rcases Int.lt_or_eq_of_le e2 with h | h
          · exact h
          · exact absurd ((cR.zero _ _).1 h).symm e1
        rw [hw] at hd h3
        rcases List.mem_cons.1 hd with rfl | hd
        · exact e3
        · exact cR.lt_of_lt_of_le e3 ((List.pairwise_cons.1 h3).1 d hd)
    rw [grp]
    unfold rising
    rw [List.pairwise_append]
    refine ⟨?_, grp_rising n _ h3, ?_⟩
    · unfold one1; split <;> simp
    · intro a ha b hb
      obtain ⟨a1, _, _⟩ := one_mem ha
      obtain ⟨⟨e, e1, e2⟩, _⟩ := grp_row n _ b hb
      rw [a1, ← e2]
      exact h4 e e1

theorem grp_canon {l : List Cnt} (n : Nat) (h : l.Pairwise (fun x y => cmpR x.row y.row ≤ 0)) : canon (grp n l) := ⟨grp_rising n l h, fun c hc => (grp_row n l c hc).2⟩

/-! a row so many times more -/

def addC : List Cnt → List Val → Int → List Cnt
  | [], r, n => one1 r n
  | c :: b, r, n => if cmpR c.row r < 0 then c :: addC b r n else if cmpR c.row r = 0 then one1 r (n + c.n) ++ b else one1 r n ++ (c :: b)

theorem addC_cnt : ∀ (b : List Cnt) (r : List Val) (n : Int) (q : List Val), cnt (addC b r n) q = cnt b q + if r = q then n else 0
  | [], r, n, q => by simp [addC, cnt_one]
  | c :: b, r, n, q => by
    rw [addC]
    split
    · rw [cnt_cons, addC_cnt b r n q, cnt_cons]; omega
    · split
      · rename_i h
        have e := (cR.zero _ _).1 h
        rw [cnt_app, cnt_one, cnt_cons, e]
        split <;> omega
      · rw [cnt_app, cnt_one]; omega

theorem addC_row : ∀ {b : List Cnt} {r : List Val} {n : Int} {c : Cnt}, c ∈ addC b r n → c.row = r ∨ c ∈ b
  | [], r, n, c, h => .inl (one_mem h).1
  | d :: b, r, n, c, h => by
    rw [addC] at h
    split at h
    · rcases List.mem_cons.1 h with rfl | h
      · exact .inr (List.mem_cons_self ..)
      · rcases addC_row h with h | h
        · exact .inl h
        · exact .inr (List.mem_cons_of_mem _ h)
    · split at h
      · rcases List.mem_append.1 h with h | h
        · exact .inl (one_mem h).1
        · exact .inr (List.mem_cons_of_mem _ h)
      · rcases List.mem_append.1 h with h | h
        · exact .inl (one_mem h).1
        · exact .inr h

theorem one_canon (r : List Val) (n : Int) : canon (one1 r n) := by
  refine ⟨?_, fun c hc => ?_⟩
  · unfold one1 rising; split <;> simp
  · obtain ⟨_, h1, h2⟩ := one_mem hc
    rw [h1]; exact h2

theorem addC_canon : ∀ {b : List Cnt} (r : List Val) (n : Int), canon b → canon (addC b r n)
  | [], r, n, _ => one_canon r n
  | d :: b, r, n, h => by
    obtain ⟨h1, h2⟩ := List.pairwise_cons.1 h.1
    have hb : canon b := ⟨h2, fun c hc => h.2 c (List.mem_cons_of_mem _ hc)⟩
    rw [addC]
    split
    · rename_i hlt
      obtain ⟨k1, k2⟩ := addC_canon r n hb
      refine ⟨List.pairwise_cons.2 ⟨fun c hc => ?_, k1⟩, fun c hc => ?_⟩
      · rcases addC_row hc with e | hc
        · rw [e]; exact hlt
        · exact h1 c hc
      · rcases List.mem_cons.1 hc with rfl | hc
        · exact h.2 _ (List.mem_cons_self ..)
        · exact k2 c hc
    · split
      · rename_i h0
        have e := (cR.zero _ _).1 h0
        refine ⟨List.pairwise_append.2 ⟨(one_canon r _).1, h2, fun a ha c hc => ?_⟩, fun c hc => ?_⟩
        · rw [(one_mem ha).1, ← e]; exact h1 c hc
        · rcases List.mem_append.1 hc with hc | hc
          · exact (one_canon r _).2 c hc
          · exact hb.2 c hc
      · rename_i hn h0
        have hgt : cmpR r d.row < 0 := by
          have := cR.anti r d.row
          have := cR.rng d.row r
          omega
        refine ⟨List.pairwise_append.2 ⟨(one_canon r _).1, h.1, fun a ha c hc => ?_⟩, fun c hc => ?_⟩
        · rw [(one_mem ha).1]
          rcases List.mem_cons.1 hc with rfl | hc
          · exact hgt
          · exact cR.lt_trans hgt (h1 c hc)
        · rcases List.mem_append.1 hc with hc | hc
          · exact (one_canon r _).2 c hc
          · exact h.2 c hc

end Go.Proofs.Ytinnnhiaamjjlaa

set_option linter.unusedVariables false
set_option linter.unusedSimpArgs false
namespace Go.Proofs.Ytinnnhiaamjjlaa
open Go Go.Pu

def fitsN (n : Int) : Bool := decide (-1000000000 ≤ n) && decide (n ≤ 1000000000)
def goodC (c : Cnt) : Bool := !decide (c.n = 0) && fitsN c.n && mayR c.row
theorem goodC_iff {c : Cnt} : goodC c = true ↔ c.n ≠ 0 ∧ fitsN c.n = true ∧ mayR c.row = true := by simp [goodC, and_assoc]
/-- is the entry at i good, and behind the one ahead? -/
def goodAt (b : List Cnt) (i : Nat) : Bool := goodC (b.getD i ⟨[], 0⟩) && (decide (i = 0) || decide (cmpR (b.getD (i - 1) ⟨[], 0⟩).row (b.getD i ⟨[], 0⟩).row < 0))
def mayB (b : List Cnt) : Bool := decide (∀ i, i < b.length → goodAt b i = true)

theorem chain_rising {b : List Cnt} (h : ∀ i, (hi : i + 1 < b.length) → cmpR b[i].row b[i + 1].row < 0) : rising b := by
  unfold rising
  rw [List.pairwise_iff_getElem]
  intro i j hi hj hij
  have key : ∀ k, (hk : i + 1 + k < b.length) → cmpR b[i].row b[i + 1 + k].row < 0 := by
    intro k
    induction k with
    | zero => intro hk; exact h i hk
    | succ k ih => intro hk; exact cR.lt_trans (ih (by omega)) (h (i + 1 + k) hk)
  have := key (j - (i + 1)) (by omega)
  have e : i + 1 + (j - (i + 1)) = j := by omega
  simpa only [e] using this

theorem getD_in {α : Type} {l : List α} {i : Nat} (h : i < l.length) (d : α) : l.getD i d = l[i] := by rw [List.getD, List.getElem?_eq_getElem h]; rfl

theorem mayB_iff {b : List Cnt} : mayB b = true ↔ rising b ∧ ∀ c ∈ b, goodC c = true := by
  unfold mayB
  rw [decide_eq_true_iff]
  constructor
  · intro h
    refine ⟨chain_rising fun i hi => ?_, fun c hc => ?_⟩
    · have := h (i + 1) hi
      unfold goodAt at this
      rw [Nat.add_sub_cancel, getD_in hi, getD_in (Nat.lt_of_succ_lt hi)] at this
      have := (Bool.and_eq_true _ _ ▸ this).2
      simpa using this
    · obtain ⟨i, hi, rfl⟩ := List.mem_iff_getElem.1 hc
      have := h i hi
      unfold goodAt at this
      rw [getD_in hi] at this
      exact (Bool.and_eq_true _ _ ▸ this).1
  · intro ⟨h1, h2⟩ i hi
    unfold goodAt
    rw [getD_in hi, h2 _ (List.getElem_mem hi), Bool.true_and]
    by_cases e : i = 0
    · simp [e]
    · have hp : i - 1 < b.length := by omega
      rw [getD_in hp]
      have := List.pairwise_iff_getElem.1 h1 (i - 1) i hp hi (by omega)
      simp [e, this]

theorem mayB_canon {b : List Cnt} (h : mayB b = true) : canon b :=
  ⟨(mayB_iff.1 h).1, fun c hc => (goodC_iff.1 ((mayB_iff.1 h).2 c hc)).1⟩
/-- counts as a bag -/
def sumB (l : List Cnt) : List Cnt := l.foldl (fun b c => addC b c.row c.n) []
theorem foldC (l b : List Cnt) (hb : canon b) : canon (l.foldl (fun b c => addC b c.row c.n) b) ∧ ∀ r, cnt (l.foldl (fun b c => addC b c.row c.n) b) r = cnt b r + cnt l r := by
  induction l generalizing b with
  | nil => exact ⟨hb, fun r => by simp⟩
  | cons c l ih =>
    obtain ⟨h1, h2⟩ := ih (addC b c.row c.n) (addC_canon _ _ hb)
    refine ⟨h1, fun r => ?_⟩
    rw [List.foldl_cons, h2, addC_cnt, cnt_cons]; omega
theorem sumB_canon (l : List Cnt) : canon (sumB l) := (foldC l [] canon_nil).1
theorem sumB_cnt (l : List Cnt) (r : List Val) : cnt (sumB l) r = cnt l r := by
  have := (foldC l [] canon_nil).2 r
  rw [cnt_nil, Int.zero_add] at this
  exact this
theorem sumB_eq {l s : List Cnt} (h1 : canon s) (h2 : ∀ r, cnt s r = cnt l r) : s = sumB l := canon_ext h1 (sumB_canon l) fun r => by rw [h2, sumB_cnt]
theorem fold_row : ∀ (l b : List Cnt) {c : Cnt}, c ∈ l.foldl (fun b c => addC b c.row c.n) b → (∃ d ∈ l, d.row = c.row) ∨ c ∈ b
  | [], b, c, h => .inr h
  | d :: l, b, c, h => by
    rcases fold_row l _ h with ⟨e, he, h⟩ | h
    · exact .inl ⟨e, List.mem_cons_of_mem _ he, h⟩
    · rcases addC_row h with h | h
      · exact .inl ⟨d, List.mem_cons_self .., h.symm⟩
      · exact .inr h
theorem sumB_row {l : List Cnt} {c : Cnt} (h : c ∈ sumB l) : ∃ d ∈ l, d.row = c.row := by
  rcases fold_row l [] h with h | h
  · exact h
  · cases h
theorem sumB_n {l : List Cnt} {c : Cnt} (h : c ∈ sumB l) : c.n = cnt l c.row := by
  rw [← sumB_cnt]; exact (cnt_mem (sumB_canon l).1 h).symm
theorem cnt_abs (l : List Cnt) (r : List Val) : (cnt l r).natAbs ≤ absN l := by
  induction l with
  | nil => simp
  | cons c l ih => rw [cnt_cons]; simp only [absN]; split <;> omega

theorem addC_len : ∀ (b : List Cnt) (r : List Val) (n : Int), (addC b r n).length ≤ b.length + 1
  | [], r, n => by unfold addC one1; split <;> simp
  | c :: b, r, n => by
    have h1 := addC_len b r n
    have h2 : ∀ m, (one1 r m).length ≤ 1 := fun m => by unfold one1; split <;> simp
    have h3 := h2 n
    have h4 := h2 (n + c.n)
    unfold addC
    split
    · simp only [List.length_cons]; omega
    · split <;> simp only [List.length_append, List.length_cons] <;> omega
theorem fold_len : ∀ (l b : List Cnt), (l.foldl (fun b c => addC b c.row c.n) b).length ≤ b.length + l.length
  | [], b => by simp
  | c :: l, b => by
    have h1 := fold_len l (addC b c.row c.n)
    have h2 := addC_len b c.row c.n
    rw [List.foldl_cons, List.length_cons]; omega
theorem sumB_len (l : List Cnt) : (sumB l).length ≤ l.length := by
  have := fold_len l []
  rw [List.length_nil, Nat.zero_add] at this
  exact this

/-! turned -/

/-! a row -/

/-! rows -/

def oneC (r : List Val) : Cnt := ⟨r, 1⟩
end Go.Proofs.Ytinnnhiaamjjlaa

set_option linter.unusedVariables false
set_option linter.unusedSimpArgs false
namespace Go.Proofs.Ytinnnhiaamjjlaa
open Go Go.Pu

def ofB (l : List (List Val)) : List Cnt := if l.all mayR = true then sumB (l.map oneC) else []
/-- a bag that may be, of low counts -/
def lowB (b : List Cnt) : Prop := mayB b = true ∧ ∀ c ∈ b, -1000000 ≤ c.n ∧ c.n ≤ 1000000
theorem lowB.cnt {b : List Cnt} (h : lowB b) (r : List Val) : (cnt b r).natAbs ≤ 1000000 := by
  by_cases e : Go.Proofs.Ytinnnhiaamjjlaa.cnt b r = 0
  · rw [e]; decide
  · obtain ⟨c, hc, hr⟩ := cnt_ne e
    have h1 := cnt_mem (mayB_canon h.1).1 hc
    have h2 := h.2 c hc
    rw [hr] at h1
    rw [h1]; omega

end Go.Proofs.Ytinnnhiaamjjlaa

set_option linter.unusedVariables false
set_option linter.unusedSimpArgs false
namespace Go.Proofs.Ytinnnhiaamjjlaa
open Go Go.Pu

end Go.Proofs.Ytinnnhiaamjjlaa

set_option linter.unusedVariables false
set_option linter.unusedSimpArgs false
namespace Go.Proofs.Ytinnnhiaamjjlaa
open Go Go.Pu

def Val.u (v : Val) : List U := [.i v.k, .i v.n, .s (bs v.s)]

end Go.Proofs.Ytinnnhiaamjjlaa

set_option linter.unusedVariables false
set_option linter.unusedSimpArgs false
namespace Go.Proofs.Ytinnnhiaamjjlaa
open Go Go.Pu

end Go.Proofs.Ytinnnhiaamjjlaa

set_option linter.unusedVariables false
set_option linter.unusedSimpArgs false
namespace Go.Proofs.Ytinnnhiaamjjlaa
open Go Go.Pu

end Go.Proofs.Ytinnnhiaamjjlaa

set_option linter.unusedVariables false
set_option linter.unusedSimpArgs false
namespace Go.Proofs.Ytinnnhiaamjjlaa
open Go Go.Pu

end Go.Proofs.Ytinnnhiaamjjlaa

set_option linter.unusedVariables false
set_option linter.unusedSimpArgs false
namespace Go.Proofs.Ytinnnhiaamjjlaa
open Go Go.Pu

end Go.Proofs.Ytinnnhiaamjjlaa

set_option linter.unusedVariables false
namespace Go.Proofs.Ytinnnhiaamjjlaa
open Go Go.Pu

end Go.Proofs.Ytinnnhiaamjjlaa

set_option linter.unusedVariables false
set_option linter.unusedSimpArgs false
namespace Go.Proofs.Ytinnnhiaamjjlaa
open Go Go.Pu

def dbl (s : List UInt8) : List UInt8 := s.flatMap fun b => if b = 39 then [39, 39] else [b]
@[simp] theorem dbl_nil : dbl [] = [] := rfl
/-! unlike values have unlike texts, whatever stands behind them -/

end Go.Proofs.Ytinnnhiaamjjlaa

set_option linter.unusedVariables false
set_option linter.unusedSimpArgs false
namespace Go.Proofs.Ytinnnhiaamjjlaa
open Go Go.Pu

theorem take_one {α : Type} (l : List α) {i : Nat} (h : i < l.length) : l.take (i + 1) = l.take i ++ [l[i]] := by
  rw [List.take_add_one, List.getElem?_eq_getElem h]; rfl

/-! rows, joined -/

def reR (r : List Val) : List PV := [.lst 28 (re r)]
/-! texts -/

/-! unlike rows have unlike texts -/

end Go.Proofs.Ytinnnhiaamjjlaa

set_option linter.unusedVariables false
set_option linter.unusedSimpArgs false
namespace Go.Proofs.Ytinnnhiaamjjlaa
open Go Go.Pu

end Go.Proofs.Ytinnnhiaamjjlaa

set_option linter.unusedSimpArgs false
set_option linter.unusedVariables false
namespace Go.Proofs.Ytinnnhiaamjjlaa
open Go Go.Pu

def dC (N : Nat) (f : Nat → Cnt) : List (List PV) := (tab N f).map Cnt.e
@[simp] theorem dC_length (N : Nat) (f : Nat → Cnt) : (dC N f).length = N := by simp [dC]
@[simp] theorem dC_ln (N : Nat) (f : Nat → Cnt) : ln (dC N f) = (N : Int) := by simp [ln]
theorem dC_el (N : Nat) (f : Nat → Cnt) {i : Nat} (h : i < N) : el (dC N f) (i : Int) = (f i).e := by
  unfold dC
  rw [el_map _ _ (by simpa using h), tab_get]
theorem dC_set (N : Nat) (f : Nat → Cnt) (i : Nat) (x : Cnt) : (dC N f).set i x.e = dC N (updF f i x) := by
  unfold dC; rw [← List.map_set, tab_set]
theorem setC (x y : Cnt) : setCells x.e 0 [PV.lst 28 (cL y.e 0), pI (cI y.e 1)] = y.e := by simp [Cnt.e, setCells]
theorem add64 {a b : Nat} (h : a + b < 4611686018427387904) : w64 ((a : Int) + (b : Int)) = ((a + b : Nat) : Int) := by
  rw [w64_eq (by omega) (by omega)]; omega
theorem sub64 {a b : Nat} (h : b ≤ a) (h2 : a < 4611686018427387904) : w64 ((a : Int) - (b : Int)) = ((a - b : Nat) : Int) := by
  rw [w64_eq (by omega) (by omega)]; omega
theorem sub64' {a : Nat} (h : 1 ≤ a) (h2 : a < 4611686018427387904) : w64 ((a : Int) - 1) = ((a - 1 : Nat) : Int) := by
  rw [w64_eq (by omega) (by omega)]; omega

theorem swapRange_res (N : Nat) (f : Nat → Cnt) (a b n : Nat) (h1 : a + n ≤ b) (h2 : b + n ≤ N) (hN : N ≤ 4398046511104) :
    (m_slices_swapRangeCmpFunc_Count [.i a, .i b, .i n, .l (dC N f)]).res = some (0, [.l (dC N (sw f a b n))]) := by
  have hl : lres rd_slices_swapRangeCmpFunc_Count_78_1 [.i a, .i b, .i n, .i (0 : Nat), .l (dC N f)] = some (0, [.l (dC N (sw f a b n))]) := by
    have := loop_acc (rd := rd_slices_swapRangeCmpFunc_Count_78_1) n (fun i => [.i a, .i b, .i n, .i (i : Nat), .l (dC N (sw f a b i))]) (some (0, [.l (dC N (sw f a b n))]))
      (lres_stop (by simp [rd_slices_swapRangeCmpFunc_Count_78_1]))
      (fun i hi => by
        simp only [rd_slices_swapRangeCmpFunc_Count_78_1, add64 (a := a) (b := i) (by omega), add64 (a := b) (b := i) (by omega), Int.toNat_natCast, dC_el N _ (show a + i < N by omega), dC_el N _ (show b + i < N by omega), setC, dC_set, updF_updF,
          sw_succ f (show a + (i + 1) ≤ b by omega)]
        simp [-Int.natCast_add, w64_succ (i := i) (by omega), show i < n from hi, show a + i < N by omega, show b + i < N by omega])
    simpa [sw_0] using this
  simp only [m_slices_swapRangeCmpFunc_Count]
  have h0 : ((0 : Nat) : Int) = 0 := rfl
  rw [h0] at hl
  simp [hl]

theorem rotate_loop (N m : Nat) (hN : N ≤ 4398046511104) : ∀ (s i j : Nat) (f : Nat → Cnt), i + j ≤ s → 0 < i → 0 < j → i ≤ m → m + j ≤ N →
    ∃ r g, 0 < r ∧ r ≤ m ∧ m + r ≤ N ∧ lres rd_slices_rotateCmpFunc_Count_77_2 [.i m, .i i, .i j, .l (dC N f)] = some (0, [.i m, .i r, .l (dC N g)]) ∧ sw g (m - r) m r = rt f (m - i) m (m + j) ∧ (tab N g).Perm (tab N f) := by
  intro s
  induction s with
  | zero => intro i j f h h1 h2; omega
  | succ s ih =>
    intro i j f h h1 h2 h3 h4
    rcases Nat.lt_trichotomy i j with hij | hij | hij
    · obtain ⟨r, g, g1, g2, g3, g4, g5, g6⟩ := ih i (j - i) (sw f (m - i) (m + j - i) i) (by omega) h1 (by omega) h3 (by omega)
      refine ⟨r, g, g1, g2, g3, ?_, by rw [g5, rt_lt f h3 h1 hij], g6.trans (sw_perm N f i (by omega) (by omega))⟩
      rw [← g4]
      refine lres_next ?_
      have e := swapRange_res N f (m - i) (m + j - i) i (by omega) (by omega) hN
      simp only [rd_slices_rotateCmpFunc_Count_77_2, sub64 (a := m) (b := i) h3 (by omega), add64 (a := m) (b := j) (by omega), sub64 (a := m + j) (b := i) (by omega) (by omega), sub64 (a := j) (b := i) (by omega) (by omega)]
      simp [-Int.natCast_add, e, show ¬ ((i : Int) = (j : Int)) by omega, show ¬ (j < i) by omega]
    · subst hij
      refine ⟨i, f, h1, h3, h4, lres_stop ?_, rt_eq f h3, List.Perm.refl _⟩
      simp [rd_slices_rotateCmpFunc_Count_77_2]
    · obtain ⟨r, g, g1, g2, g3, g4, g5, g6⟩ := ih (i - j) j (sw f (m - i) m j) (by omega) (by omega) h2 (by omega) h4
      refine ⟨r, g, g1, g2, g3, ?_, by rw [g5, rt_gt f h3 h2 hij], g6.trans (sw_perm N f j (by omega) (by omega))⟩
      rw [← g4]
      refine lres_next ?_
      have e := swapRange_res N f (m - i) m j (by omega) (by omega) hN
      simp only [rd_slices_rotateCmpFunc_Count_77_2, sub64 (a := m) (b := i) h3 (by omega), sub64 (a := i) (b := j) (by omega) (by omega)]
      simp [-Int.natCast_add, e, show ¬ ((i : Int) = (j : Int)) by omega, show j < i by omega]

theorem rotate_res (N : Nat) (f : Nat → Cnt) (a m b : Nat) (h1 : a < m) (h2 : m < b) (h3 : b ≤ N) (hN : N ≤ 4398046511104) :
    (m_slices_rotateCmpFunc_Count [.i a, .i m, .i b, .l (dC N f)]).res = some (0, [.l (dC N (rt f a m b))]) ∧ (tab N (rt f a m b)).Perm (tab N f) := by
  obtain ⟨r, g, g1, g2, g3, g4, g5, g6⟩ := rotate_loop N m hN (b - a) (m - a) (b - m) f (by omega) (by omega) (by omega) (by omega) (by omega)
  have e1 : m - (m - a) = a := by omega
  have e2 : m + (b - m) = b := by omega
  rw [e1, e2] at g5
  rw [← g5]
  have e := swapRange_res N g (m - r) m r (by omega) (by omega) hN
  refine ⟨?_, (sw_perm N g r (by omega) (by omega)).trans g6⟩
  simp only [m_slices_rotateCmpFunc_Count, sub64 (a := m) (b := a) (by omega) (by omega), sub64 (a := b) (b := m) (by omega) (by omega), g4]
  simp [-Int.natCast_add, sub64 (a := m) (b := r) (by omega) (by omega), e]

/-! insertion -/

def cC (x y : Cnt) : Int := cmpR x.row y.row
theorem preC : Pre cC := ⟨fun a b => cR.anti _ _, fun a b d => cR.trans _ _ _⟩
def okF (f : Nat → Cnt) : Prop := ∀ k, (f k).row.length ≤ 4398046511104
theorem okF.mv {N a b : Nat} {f g : Nat → Cnt} (h : okF f) (hm : Mv N a b g f) : okF g := by
  intro k
  by_cases e : a ≤ k ∧ k < b
  · obtain ⟨k', _, _, e2⟩ := hm.frm k e.1 e.2
    rw [e2]; exact h k'
  · rw [hm.out k (by omega)]; exact h k
theorem cmpC_res (x y : Cnt) (h : x.row.length ≤ 4398046511104) : (m_row_Compare [.l (cL x.e 0), .l (cL y.e 0)]).res = some (0, [.i (cC x y)]) := row_Compare_res x.row y.row h

theorem ins_loop (N : Nat) (hN : N ≤ 4398046511104) (a b i : Nat) (hi : i < N) : ∀ (j : Nat) (f : Nat → Cnt), a ≤ j → j ≤ i → okF f → Ins cC f a i j →
    ∃ g, lres rd_slices_insertionSortCmpFunc_Count_74_4 [.i a, .i b, .i i, .i j, .l (dC N f)] = some (0, [.i a, .i b, .i i, .l (dC N g)]) ∧ Mv N a (i + 1) g f ∧ srt cC g a (i + 1) := by
  intro j
  induction j with
  | zero =>
    intro f h1 h2 hf hI
    have : a = 0 := by omega
    subst this
    refine ⟨f, lres_stop ?_, Mv.refl _ _ _ _, hI.done0⟩
    simp [rd_slices_insertionSortCmpFunc_Count_74_4]
  | succ j ih =>
    intro f h1 h2 hf hI
    by_cases ha : a = j + 1
    · subst ha
      refine ⟨f, lres_stop ?_, Mv.refl _ _ _ _, hI.done0⟩
      simp [rd_slices_insertionSortCmpFunc_Count_74_4]
    · have e1 : w64 (((j + 1 : Nat) : Int) - 1) = (j : Int) := by rw [sub64' (by omega) (by omega)]; simp
      have hc := cmpC_res (f (j + 1)) (f j) (hf _)
      by_cases hlt : cC (f (j + 1)) (f j) < 0
      · have hI' := hI.next preC (by omega) h2 (by simpa using hlt)
        have hm : Mv N a (i + 1) (sw1 f (j + 1) j) f := Mv.sw1 f (by omega) (by omega) (by omega)
        obtain ⟨g, g1, g2, g3⟩ := ih (sw1 f (j + 1) j) (by omega) (by omega) (hf.mv hm) hI'
        refine ⟨g, ?_, g2.trans hm, g3⟩
        rw [← g1]
        refine lres_next ?_
        simp only [rd_slices_insertionSortCmpFunc_Count_74_4, e1, Int.toNat_natCast, dC_el N f (show j + 1 < N by omega), dC_el N f (show j < N by omega), hc, setC, dC_set]
        rw [dC_el N _ (show j < N by omega)]
        simp only [setC, dC_set, updF_updF]
        simp [-Int.natCast_add, hlt, show a < j + 1 by omega, show j + 1 < N by omega, show j < N by omega]
      · refine ⟨f, lres_stop ?_, Mv.refl _ _ _ _, hI.done preC (by omega) h2 (by simpa using hlt)⟩
        simp only [rd_slices_insertionSortCmpFunc_Count_74_4, e1, Int.toNat_natCast, dC_el N f (show j + 1 < N by omega), dC_el N f (show j < N by omega), hc, setC, dC_set]
        simp [-Int.natCast_add, hlt, show a < j + 1 by omega, show j + 1 < N by omega, show j < N by omega]

theorem insertion_res (N : Nat) (hN : N ≤ 4398046511104) (a b : Nat) (f : Nat → Cnt) (hab : a ≤ b) (hb : b ≤ N) (hf : okF f) :
    ∃ g, (m_slices_insertionSortCmpFunc_Count [.i a, .i b, .l (dC N f)]).res = some (0, [.l (dC N g)]) ∧ Mv N a b g f ∧ srt cC g a b := by
  have key : ∀ s i (f : Nat → Cnt), a ≤ i → b ≤ i + s → okF f → srt cC f a i → i ≤ b ∨ i = a + 1 → ∃ g, lres rd_slices_insertionSortCmpFunc_Count_74_1 [.i a, .i b, .i i, .l (dC N f)] = some (0, [.l (dC N g)]) ∧ Mv N a b g f ∧ srt cC g a b := by
    intro s
    induction s with
    | zero =>
      intro i f h1 h2 hf hs h3
      refine ⟨f, lres_stop ?_, Mv.refl _ _ _ _, srt_sub hs (Nat.le_refl _) (by omega)⟩
      simp [rd_slices_insertionSortCmpFunc_Count_74_1, show ¬ (i < b) by omega]
    | succ s ih =>
      intro i f h1 h2 hf hs h3
      by_cases hi : i < b
      · obtain ⟨g, g1, g2, g3⟩ := ins_loop N hN a b i (by omega) i f h1 (Nat.le_refl _) hf (Ins.start preC hs)
        obtain ⟨k, k1, k2, k3⟩ := ih (i + 1) g (by omega) (by omega) (hf.mv g2) g3 (by omega)
        refine ⟨k, ?_, k2.trans (g2.wide (Nat.le_refl _) (by omega)), k3⟩
        rw [← k1]
        refine lres_next ?_
        simp only [rd_slices_insertionSortCmpFunc_Count_74_1, g1]
        simp [-Int.natCast_add, hi, w64_succ (i := i) (by omega)]
      · refine ⟨f, lres_stop ?_, Mv.refl _ _ _ _, srt_sub hs (Nat.le_refl _) (by omega)⟩
        simp [rd_slices_insertionSortCmpFunc_Count_74_1, hi]
  obtain ⟨g, g1, g2, g3⟩ := key b (a + 1) f (by omega) (by omega) hf (srt_one preC f (by omega)) (.inr rfl)
  refine ⟨g, ?_, g2, g3⟩
  simp only [m_slices_insertionSortCmpFunc_Count, w64_succ (i := a) (by omega), g1]
  simp

/-! symMerge -/

theorem rt_perm (N : Nat) (hN : N ≤ 4398046511104) (f : Nat → Cnt) {s m e : Nat} (h1 : s ≤ m) (h2 : m ≤ e) (h3 : e ≤ N) : (tab N (rt f s m e)).Perm (tab N f) := by
  by_cases e1 : s = m
  · subst e1; rw [rt_self]
  · by_cases e2 : m = e
    · subst e2; rw [rt_self']
    · exact (rotate_res N f s m e (by omega) (by omega) h3 hN).2

def ltB (x y : Cnt) : Bool := decide (cC x y < 0)

theorem sm3 (N : Nat) (hN : N ≤ 4398046511104) (f : Nat → Cnt) (hf : okF f) (a lo hi : Nat) (ha : a < N) (h1 : lo ≤ hi) (h2 : hi ≤ N) :
    ∃ r, lo ≤ r ∧ r ≤ hi ∧ lres rd_slices_symMergeCmpFunc_Count_75_3 [.i a, .i lo, .i hi, .l (dC N f)] = some (0, [.i a, .i r, .l (dC N f)]) ∧ (lo < r → ltB (f (r - 1)) (f a) = true) ∧ (r < hi → ltB (f r) (f a) = false) := by
  refine bin_loop (fun i j => [.i a, .i i, .i j, .l (dC N f)]) (fun i => [.i a, .i i, .l (dC N f)]) (fun k => ltB (f k) (f a)) lo hi ?_ ?_ (hi - lo) lo hi (by omega) (by omega) h1 (by omega) (by omega) (by omega)
  · intro i _ _
    simp [rd_slices_symMergeCmpFunc_Count_75_3]
  · intro i j g1 g2 g3
    simp only [rd_slices_symMergeCmpFunc_Count_75_3, mid_eq (i := i) (j := j) (by omega) (by omega)]
    have hh : (i + j) / 2 < N := by omega
    generalize (i + j) / 2 = h at hh ⊢
    simp only [Int.toNat_natCast, dC_el N f hh, dC_el N f ha, cmpC_res _ _ (hf _), w64_succ (i := h) (by omega)]
    by_cases hc : cC (f h) (f a) < 0
    · simp [-Int.natCast_add, g2, hh, ha, ltB, hc]
    · simp [-Int.natCast_add, g2, hh, ha, ltB, hc]

theorem sm15 (N : Nat) (hN : N ≤ 4398046511104) (f : Nat → Cnt) (hf : okF f) (m lo hi : Nat) (ha : m < N) (h1 : lo ≤ hi) (h2 : hi ≤ N) :
    ∃ r, lo ≤ r ∧ r ≤ hi ∧ lres rd_slices_symMergeCmpFunc_Count_75_15 [.i m, .i lo, .i hi, .l (dC N f)] = some (0, [.i m, .i r, .l (dC N f)]) ∧ (lo < r → (!ltB (f m) (f (r - 1))) = true) ∧ (r < hi → (!ltB (f m) (f r)) = false) := by
  refine bin_loop (fun i j => [.i m, .i i, .i j, .l (dC N f)]) (fun i => [.i m, .i i, .l (dC N f)]) (fun k => !ltB (f m) (f k)) lo hi ?_ ?_ (hi - lo) lo hi (by omega) (by omega) h1 (by omega) (by omega) (by omega)
  · intro i _ _
    simp [rd_slices_symMergeCmpFunc_Count_75_15]
  · intro i j g1 g2 g3
    simp only [rd_slices_symMergeCmpFunc_Count_75_15, mid_eq (i := i) (j := j) (by omega) (by omega)]
    have hh : (i + j) / 2 < N := by omega
    generalize (i + j) / 2 = h at hh ⊢
    simp only [Int.toNat_natCast, dC_el N f hh, dC_el N f ha, cmpC_res _ _ (hf _), w64_succ (i := h) (by omega)]
    by_cases hc : cC (f m) (f h) < 0
    · simp [-Int.natCast_add, g2, hh, ha, ltB, hc]
    · simp [-Int.natCast_add, g2, hh, ha, ltB, hc]

theorem sm9 (N : Nat) (hN : N ≤ 4398046511104) (f : Nat → Cnt) (a r : Nat) (h1 : a + 1 ≤ r) (h2 : r ≤ N) :
    lres rd_slices_symMergeCmpFunc_Count_75_9 [.i r, .i a, .l (dC N f)] = some (0, [.l (dC N (rt f a (a + 1) r))]) := by
  have := loop_acc (rd := rd_slices_symMergeCmpFunc_Count_75_9) (r - a - 1) (fun t => [.i r, .i (a + t : Nat), .l (dC N (rt f a (a + 1) (a + 1 + t)))]) (some (0, [.l (dC N (rt f a (a + 1) r))]))
    (lres_stop (by
      rw [show a + 1 + (r - a - 1) = r by omega]
      simp [-Int.natCast_add, rd_slices_symMergeCmpFunc_Count_75_9, sub64' (a := r) (by omega) (by omega), show ¬ (a + (r - a - 1) < r - 1) by omega]))
    (fun t ht => by
      simp only [rd_slices_symMergeCmpFunc_Count_75_9, w64_succ (i := a + t) (by omega), sub64' (a := r) (by omega) (by omega), Int.toNat_natCast, dC_el N _ (show a + t < N by omega), dC_el N _ (show a + t + 1 < N by omega), setC, dC_set, updF_updF, rt_up]
      simp [-Int.natCast_add, show a + t < r - 1 by omega, show a + t < N by omega, show a + t + 1 < N by omega]
      rfl)
  simpa [rt_self'] using this

theorem sm21 (N : Nat) (hN : N ≤ 4398046511104) (f : Nat → Cnt) (r m : Nat) (h1 : r ≤ m) (h2 : m < N) :
    lres rd_slices_symMergeCmpFunc_Count_75_21 [.i r, .i m, .l (dC N f)] = some (0, [.l (dC N (rt f r m (m + 1)))]) := by
  have := loop_acc (rd := rd_slices_symMergeCmpFunc_Count_75_21) (m - r) (fun t => [.i r, .i (m - t : Nat), .l (dC N (rt f (m - t) m (m + 1)))]) (some (0, [.l (dC N (rt f r m (m + 1)))]))
    (lres_stop (by
      rw [show m - (m - r) = r by omega]
      simp [rd_slices_symMergeCmpFunc_Count_75_21]))
    (fun t ht => by
      simp only [rd_slices_symMergeCmpFunc_Count_75_21, sub64' (a := m - t) (by omega) (by omega), Int.toNat_natCast, dC_el N _ (show m - t < N by omega), dC_el N _ (show m - t - 1 < N by omega), setC, dC_set, updF_updF, rt_down f (show t < m by omega)]
      simp [-Int.natCast_add, show r < m - t by omega, show m - t < N by omega, show m - t - 1 < N by omega]
      rfl)
  simpa [rt_self] using this

theorem sm33 (N : Nat) (hN : N ≤ 4398046511104) (f : Nat → Cnt) (hf : okF f) (a m b mid n p lo hi : Nat) (h1 : lo ≤ hi) (h2 : hi ≤ N) (hp : hi ≤ p + 1) (hp2 : p < N + lo) (hp3 : p < 4611686018427387904) :
    ∃ r, lo ≤ r ∧ r ≤ hi ∧ lres rd_slices_symMergeCmpFunc_Count_75_33 [.i a, .i m, .i b, .i mid, .i n, .i lo, .i hi, .i p, .l (dC N f)] = some (0, [.i a, .i m, .i b, .i mid, .i n, .i r, .l (dC N f)]) ∧
      (lo < r → (!ltB (f (p - (r - 1))) (f (r - 1))) = true) ∧ (r < hi → (!ltB (f (p - r)) (f r)) = false) := by
  refine bin_loop (fun i j => [.i a, .i m, .i b, .i mid, .i n, .i i, .i j, .i p, .l (dC N f)]) (fun i => [.i a, .i m, .i b, .i mid, .i n, .i i, .l (dC N f)]) (fun k => !ltB (f (p - k)) (f k)) lo hi ?_ ?_ (hi - lo) lo hi (by omega) (by omega) h1 (by omega) (by omega) (by omega)
  · intro i _ _
    simp [rd_slices_symMergeCmpFunc_Count_75_33]
  · intro i j g1 g2 g3
    simp only [rd_slices_symMergeCmpFunc_Count_75_33, mid_eq (i := i) (j := j) (by omega) (by omega)]
    have hh : (i + j) / 2 < N := by omega
    have h5 : (i + j) / 2 ≤ p := by omega
    have h6 : p - (i + j) / 2 < N := by omega
    generalize (i + j) / 2 = h at hh h5 h6 ⊢
    simp only [sub64 (a := p) (b := h) h5 hp3, Int.toNat_natCast, dC_el N f hh, dC_el N f h6, cmpC_res _ _ (hf _), w64_succ (i := h) (by omega)]
    by_cases hc : cC (f (p - h)) (f h) < 0
    · simp [-Int.natCast_add, g2, hh, h6, ltB, hc]
    · simp [-Int.natCast_add, g2, hh, h6, ltB, hc]

theorem ltB_le {x y : Cnt} (h : ltB x y = true) : cC x y ≤ 0 := by
  have : cC x y < 0 := by simpa [ltB] using h
  omega
theorem ltB_ge {x y : Cnt} (h : ltB x y = false) : cC y x ≤ 0 := by
  have : ¬ cC x y < 0 := by simpa [ltB] using h
  have := preC.anti x y
  omega

/-- a part that is merged, or was sorted -/
theorem sm_part (N a m b : Nat) (mr : List U → Rt) (f : Nat → Cnt) (ih : a < m → m < b → ∃ g, (mr [.i a, .i m, .i b, .l (dC N f)]).res = some (0, [.l (dC N g)]) ∧ Mv N a b g f ∧ srt cC g a b)
    (h1 : srt cC f a m) (h2 : srt cC f m b) (ha : a ≤ m) (hb : m ≤ b) : ∃ g, Mv N a b g f ∧ srt cC g a b ∧ (a < m → m < b → (mr [.i a, .i m, .i b, .l (dC N f)]).res = some (0, [.l (dC N g)])) ∧ (¬ (a < m ∧ m < b) → g = f) := by
  by_cases h : a < m ∧ m < b
  · obtain ⟨g, g1, g2, g3⟩ := ih h.1 h.2
    exact ⟨g, g2, g3, fun _ _ => g1, fun hn => absurd h hn⟩
  · refine ⟨f, .refl _ _ _ _, ?_, fun h3 h4 => absurd ⟨h3, h4⟩ h, fun _ => rfl⟩
    by_cases e : a < m
    · have : m = b := by omega
      subst this; exact h1
    · have : m = a := by omega
      subst this; exact h2

set_option maxHeartbeats 4000000 in
theorem symMerge_res (N : Nat) (hN : N ≤ 4398046511104) : ∀ n a m b (f : Nat → Cnt), a < m → m < b → b ≤ N → b - a ≤ 2 ^ n → okF f → srt cC f a m → srt cC f m b →
    ∃ g, (recM s_slices_symMergeCmpFunc_Count (n + 1) [.i a, .i m, .i b, .l (dC N f)]).res = some (0, [.l (dC N g)]) ∧ Mv N a b g f ∧ srt cC g a b := by
  intro n
  induction n with
  | zero => intro a m b f h1 h2 h3 h4; simp at h4; omega
  | succ n ih =>
    intro a m b f h1 h2 h3 h4 hf hs1 hs2
    have hp2 : (2 : Nat) ^ (n + 1) = 2 ^ n + 2 ^ n := by rw [Nat.pow_succ]; omega
    rw [hp2] at h4
    generalize (2 : Nat) ^ n = w at ih h4
    show ∃ g, (s_slices_symMergeCmpFunc_Count (recM s_slices_symMergeCmpFunc_Count (n + 1)) [.i a, .i m, .i b, .l (dC N f)]).res = some (0, [.l (dC N g)]) ∧ Mv N a b g f ∧ srt cC g a b
    generalize recM s_slices_symMergeCmpFunc_Count (n + 1) = mr at ih ⊢
    by_cases c1 : m - a = 1
    · have hm : m = a + 1 := by omega
      subst hm
      obtain ⟨r, r1, r2, r3, r4, r5⟩ := sm3 N hN f hf a (a + 1) b (by omega) (by omega) h3
      have hS : Split cC f a a (a + 1) r b := ⟨Nat.le_refl _, by omega, r1, r2, hs1, hs2, .inl rfl, by
        by_cases e : r = a + 1
        · exact .inl e
        · exact .inr (.inr (ltB_le (r4 (by omega))))⟩
      have hx := hS.cross preC
      have hYW : srt cC (rt f a (a + 1) r) (a + (r - (a + 1))) b := by
        refine srt_app hS.py hS.pw fun i j g1 g2 g3 g4 => ?_
        rw [rt_y f g1 g2, rt_w f (by omega) r1 g3]
        have e : i - (r - (a + 1)) = a := by omega
        rw [e]
        exact preC.trans _ _ _ (ltB_ge (r5 (by omega))) (hs2 r j r1 g3 g4)
      refine ⟨rt f a (a + 1) r, ?_, Mv.rt f (Nat.le_refl _) (by omega) r1 r2 (rt_perm N hN f (by omega) r1 (by omega)), srt_app hS.pz hYW hx⟩
      simp only [s_slices_symMergeCmpFunc_Count, sub64 (a := a + 1) (b := a) (by omega) (by omega), r3]
      have e9 := sm9 N hN f a r r1 (by omega)
      simp [-Int.natCast_add, e9]
    · by_cases c2 : b - m = 1
      · have hb : b = m + 1 := by omega
        subst hb
        obtain ⟨r, r1, r2, r3, r4, r5⟩ := sm15 N hN f hf m a m (by omega) (by omega) (by omega)
        have hS : Split cC f a r m (m + 1) (m + 1) := ⟨r1, r2, by omega, Nat.le_refl _, hs1, hs2, .inr (.inl rfl), by
          by_cases e : r = m
          · exact .inr (.inl e)
          · exact .inr (.inr (ltB_le (by simpa using r5 (by omega))))⟩
        have hx := hS.cross preC
        have hXZ : srt cC (rt f r m (m + 1)) a (r + (m + 1 - m)) := by
          refine srt_app hS.px hS.pz fun i j g1 g2 g3 g4 => ?_
          rw [rt_x f g2, rt_z f g3 g4]
          have e : j + m - r = m := by omega
          rw [e]
          exact preC.trans _ _ _ (hs1 i (r - 1) g1 (by omega) (by omega)) (ltB_ge (by simpa using r4 (by omega)))
        refine ⟨rt f r m (m + 1), ?_, Mv.rt f r1 r2 (by omega) (Nat.le_refl _) (rt_perm N hN f r2 (by omega) h3), srt_app hXZ hS.py hx⟩
        have e15 := sm21 N hN f r m r2 (by omega)
        simp only [s_slices_symMergeCmpFunc_Count, sub64 (a := m) (b := a) (by omega) (by omega), sub64 (a := m + 1) (b := m) (by omega) (by omega), r3]
        simp [-Int.natCast_add, e15, show ¬ ((m - a : Nat) : Int) = 1 by omega]
      · -- the halves
        have hmid : (a + b) / 2 < b := by omega
        have hmid2 : a < (a + b) / 2 := by omega
        have hw1 : (a + b) / 2 - a ≤ w := by omega
        have hw2 : b - (a + b) / 2 ≤ w := by omega
        have hq : ∃ r, (if (a + b) / 2 < m then (a + b) / 2 + m - b else a) ≤ r ∧ r ≤ (if (a + b) / 2 < m then (a + b) / 2 else m) ∧
            lres rd_slices_symMergeCmpFunc_Count_75_33 [.i a, .i m, .i b, .i ((a + b) / 2 : Nat), .i ((a + b) / 2 + m : Nat), .i (if (a + b) / 2 < m then (a + b) / 2 + m - b else a : Nat), .i (if (a + b) / 2 < m then (a + b) / 2 else m : Nat), .i ((a + b) / 2 + m - 1 : Nat), .l (dC N f)] =
              some (0, [.i a, .i m, .i b, .i ((a + b) / 2 : Nat), .i ((a + b) / 2 + m : Nat), .i r, .l (dC N f)]) ∧
            ((if (a + b) / 2 < m then (a + b) / 2 + m - b else a) < r → (!ltB (f ((a + b) / 2 + m - 1 - (r - 1))) (f (r - 1))) = true) ∧ (r < (if (a + b) / 2 < m then (a + b) / 2 else m) → (!ltB (f ((a + b) / 2 + m - 1 - r)) (f r)) = false) := by
          apply sm33 N hN f hf <;> first | omega | (split <;> omega)
        have hmm : (a + b) / 2 * 2 ≤ a + b ∧ a + b ≤ (a + b) / 2 * 2 + 1 := by omega
        have hme := mid_eq (i := a) (j := b) (by omega) (by omega)
        generalize (a + b) / 2 = mid at hmid hmid2 hw1 hw2 hq hmm hme
        obtain ⟨r, r1, r2, r3, r4, r5⟩ := hq
        have o2 : r ≤ m := by split at r2 <;> omega
        have o1 : a ≤ r := by split at r1 <;> omega
        have o3 : m ≤ mid + m - r := by split at r2 <;> omega
        have o4 : mid + m - r ≤ b := by split at r1 <;> omega
        have hS : Split cC f a r m (mid + m - r) b := ⟨o1, o2, o3, o4, hs1, hs2, by
            by_cases e : (if mid < m then mid + m - b else a) < r
            · have := ltB_ge (by simpa using r4 e)
              rw [show mid + m - 1 - (r - 1) = mid + m - r by omega] at this
              exact .inr (.inr this)
            · split at e
              · exact .inr (.inl (by omega))
              · exact .inl (by omega), by
            by_cases e : r < (if mid < m then mid else m)
            · have := ltB_le (by simpa using r5 e)
              rw [show mid + m - 1 - r = mid + m - r - 1 by omega] at this
              exact .inr (.inr this)
            · split at e
              · exact .inl (by omega)
              · exact .inr (.inl (by omega))⟩
        have hx := hS.cross preC
        have hpx := hS.px
        have hpz := hS.pz
        have hpy := hS.py
        have hpw := hS.pw
        have hmv := Mv.rt (N := N) f o1 o2 o3 o4 (rt_perm N hN f o2 o3 (by omega))
        have hmd : r + (mid + m - r - m) = mid := by omega
        rw [hmd] at hx hpz hpy
        have hrot : (r < m ∧ m < mid + m - r) → (m_slices_rotateCmpFunc_Count [.i r, .i m, .i (mid + m - r : Nat), .l (dC N f)]).res = some (0, [.l (dC N (rt f r m (mid + m - r)))]) := fun h => (rotate_res N f r m (mid + m - r) h.1 h.2 (by omega) hN).1
        have hrot' : ¬ (r < m ∧ m < mid + m - r) → rt f r m (mid + m - r) = f := fun h => by
          by_cases e : r = m
          · rw [e, rt_self]
          · rw [show mid + m - r = m by omega, rt_self']
        generalize hg1 : rt f r m (mid + m - r) = g1 at *
        have hf1 := hf.mv hmv
        obtain ⟨g2, a1, a2, a3, a4⟩ := sm_part N a r mid mr g1 (fun e1 e2 => ih a r mid g1 e1 e2 (by omega) hw1 hf1 hpx hpz) hpx hpz o1 (by omega)
        have hf2 := hf1.mv a1
        have hpy2 : srt cC g2 mid (mid + m - r) := srt_congr hpy fun k h1 h2 => a1.out k (.inr h1)
        have hpw2 : srt cC g2 (mid + m - r) b := srt_congr hpw fun k h1 h2 => a1.out k (.inr (by omega))
        obtain ⟨g3, b1, b2, b3, b4⟩ := sm_part N mid (mid + m - r) b mr g2 (fun e1 e2 => ih mid (mid + m - r) b g2 e1 e2 h3 hw2 hf2 hpy2 hpw2) hpy2 hpw2 (by omega) o4
        have hfin : srt cC g3 a b := by
          refine srt_app (srt_congr a2 fun k h1 h2 => b1.out k (.inl h2)) b2 (cross_mv (N := N) hx (fun k h1 h2 => ?_) (fun k h1 h2 => ?_))
          · rw [b1.out k (.inl h2)]; exact a1.frm k h1 h2
          · obtain ⟨k', d1, d2, d3⟩ := b1.frm k h1 h2
            exact ⟨k', d1, d2, by rw [d3, a1.out k' (.inr d1)]⟩
        refine ⟨g3, ?_, (b1.wide (by omega) (Nat.le_refl _)).trans ((a1.wide (Nat.le_refl _) (by omega)).trans hmv), hfin⟩
        have q1 : (r < m ∧ m < mid + m - r) ∧ (m_slices_rotateCmpFunc_Count [.i r, .i m, .i (mid + m - r : Nat), .l (dC N f)]).res = some (0, [.l (dC N g1)]) ∨ ¬ (r < m ∧ m < mid + m - r) ∧ g1 = f := by
          by_cases e : r < m ∧ m < mid + m - r
          · exact .inl ⟨e, hrot e⟩
          · exact .inr ⟨e, hrot' e⟩
        have q2 : (a < r ∧ r < mid) ∧ (mr [.i a, .i r, .i mid, .l (dC N g1)]).res = some (0, [.l (dC N g2)]) ∨ ¬ (a < r ∧ r < mid) ∧ g2 = g1 := by
          by_cases e : a < r ∧ r < mid
          · exact .inl ⟨e, a3 e.1 e.2⟩
          · exact .inr ⟨e, a4 e⟩
        have q3 : (mid < mid + m - r ∧ mid + m - r < b) ∧ (mr [.i mid, .i (mid + m - r : Nat), .i b, .l (dC N g2)]).res = some (0, [.l (dC N g3)]) ∨ ¬ (mid < mid + m - r ∧ mid + m - r < b) ∧ g3 = g2 := by
          by_cases e : mid < mid + m - r ∧ mid + m - r < b
          · exact .inl ⟨e, b3 e.1 e.2⟩
          · exact .inr ⟨e, b4 e⟩
        have n1 : ¬ ((m - a : Nat) : Int) = 1 := by omega
        have n2 : ¬ ((b - m : Nat) : Int) = 1 := by omega
        have w1 : w64 ((mid : Int) + (m : Int)) = ((mid + m : Nat) : Int) := add64 (by omega)
        have w2 : w64 (((mid + m : Nat) : Int) - 1) = ((mid + m - 1 : Nat) : Int) := sub64' (by omega) (by omega)
        have w3 : w64 (((mid + m : Nat) : Int) - (r : Int)) = ((mid + m - r : Nat) : Int) := sub64 (by omega) (by omega)
        have w4 : mid < m → w64 (((mid + m : Nat) : Int) - (b : Int)) = ((mid + m - b : Nat) : Int) := fun h => sub64 (by omega) (by omega)
        generalize he : mid + m - r = e at *
        clear ih a3 a4 b3 b4 hrot hrot' hx hpx hpz hpy hpw hS hs1 hs2 hpy2 hpw2 hfin a1 b1 a2 b2 hmv r4 r5
        simp only [s_slices_symMergeCmpFunc_Count, sub64 (a := m) (b := a) (by omega) (by omega), sub64 (a := b) (b := m) (by omega) (by omega), hme, w1, w2]
        by_cases c3 : mid < m
        · simp only [if_pos c3] at r3
          simp only [w4 c3, r3]
          by_cases hA : r < m <;> by_cases hA2 : m < e <;> by_cases hB : a < r <;> by_cases hB2 : r < mid <;> by_cases hC : mid < e <;> by_cases hC2 : e < b <;>
            simp [hA, hA2, hB, hB2, hC, hC2] at q1 q2 q3 <;> (try subst q1) <;> (try subst q2) <;> (try subst q3) <;> (first | simp [-Int.natCast_add, n1, n2, c3, w3, hA, hA2, hB, hB2, hC, hC2, q1, q2, q3] | simp [-Int.natCast_add, n1, n2, c3, w3, hA, hA2, hB, hB2, hC, hC2, q1, q2] | simp [-Int.natCast_add, n1, n2, c3, w3, hA, hA2, hB, hB2, hC, hC2, q1, q3] | simp [-Int.natCast_add, n1, n2, c3, w3, hA, hA2, hB, hB2, hC, hC2, q2, q3] | simp [-Int.natCast_add, n1, n2, c3, w3, hA, hA2, hB, hB2, hC, hC2, q1] | simp [-Int.natCast_add, n1, n2, c3, w3, hA, hA2, hB, hB2, hC, hC2, q2] | simp [-Int.natCast_add, n1, n2, c3, w3, hA, hA2, hB, hB2, hC, hC2, q3] | simp [-Int.natCast_add, n1, n2, c3, w3, hA, hA2, hB, hB2, hC, hC2])
        · simp only [if_neg c3] at r3
          simp only [r3]
          by_cases hA : r < m <;> by_cases hA2 : m < e <;> by_cases hB : a < r <;> by_cases hB2 : r < mid <;> by_cases hC : mid < e <;> by_cases hC2 : e < b <;>
            simp [hA, hA2, hB, hB2, hC, hC2] at q1 q2 q3 <;> (try subst q1) <;> (try subst q2) <;> (try subst q3) <;> (first | simp [-Int.natCast_add, n1, n2, c3, w3, hA, hA2, hB, hB2, hC, hC2, q1, q2, q3] | simp [-Int.natCast_add, n1, n2, c3, w3, hA, hA2, hB, hB2, hC, hC2, q1, q2] | simp [-Int.natCast_add, n1, n2, c3, w3, hA, hA2, hB, hB2, hC, hC2, q1, q3] | simp [-Int.natCast_add, n1, n2, c3, w3, hA, hA2, hB, hB2, hC, hC2, q2, q3] | simp [-Int.natCast_add, n1, n2, c3, w3, hA, hA2, hB, hB2, hC, hC2, q1] | simp [-Int.natCast_add, n1, n2, c3, w3, hA, hA2, hB, hB2, hC, hC2, q2] | simp [-Int.natCast_add, n1, n2, c3, w3, hA, hA2, hB, hB2, hC, hC2, q3] | simp [-Int.natCast_add, n1, n2, c3, w3, hA, hA2, hB, hB2, hC, hC2])

end Go.Proofs.Ytinnnhiaamjjlaa

set_option linter.unusedSimpArgs false
set_option linter.unusedVariables false
namespace Go.Proofs.Ytinnnhiaamjjlaa
open Go Go.Pu

/-- each block of w is sorted -/
def bls (f : Nat → Cnt) (w n a b : Nat) : Prop := ∀ t, a ≤ t * w → t * w < b → srt cC f (t * w) (min (t * w + w) n)

theorem st2 (N : Nat) (hN : N ≤ 4398046511104) (n : Nat) (hn : n ≤ N) : ∀ s t (f : Nat → Cnt), n ≤ t * 20 + s → t * 20 ≤ n → okF f → bls f 20 n 0 (t * 20) →
    ∃ g t', lres rd_slices_stableCmpFunc_Count_72_2 [.i n, .i (20 : Nat), .i (t * 20 : Nat), .i (t * 20 + 20 : Nat), .l (dC N f)] = some (0, [.i n, .i (20 : Nat), .i (t' * 20 : Nat), .l (dC N g)]) ∧
      t' * 20 ≤ n ∧ n < t' * 20 + 20 ∧ Mv N 0 n g f ∧ bls g 20 n 0 (t' * 20) := by
  intro s
  induction s with
  | zero =>
    intro t f h1 h2 hf hb
    refine ⟨f, t, lres_stop ?_, h2, by omega, .refl _ _ _ _, hb⟩
    simp [-Int.natCast_add, -Int.natCast_mul, rd_slices_stableCmpFunc_Count_72_2, show ¬ (t * 20 + 20 ≤ n) by omega]
  | succ s ih =>
    intro t f h1 h2 hf hb
    by_cases e : t * 20 + 20 ≤ n
    · obtain ⟨g, g1, g2, g3⟩ := insertion_res N hN (t * 20) (t * 20 + 20) f (by omega) (by omega) hf
      have hb2 : bls g 20 n 0 ((t + 1) * 20) := by
        intro u u1 u2
        by_cases e2 : u = t
        · subst e2; exact srt_sub g3 (Nat.le_refl _) (by omega)
        · refine srt_congr (hb u u1 (by omega)) fun k k1 k2 => g2.out k (.inl (by omega))
      obtain ⟨k, t', k1, k2, k3, k4, k5⟩ := ih (t + 1) g (by omega) (by omega) (hf.mv g2) hb2
      refine ⟨k, t', ?_, k2, k3, k4.trans (g2.wide (by omega) e), k5⟩
      rw [← k1, show (t + 1) * 20 = t * 20 + 20 by omega]
      refine lres_next ?_
      have w1 : w64 (((t * 20 + 20 : Nat) : Int) + ((20 : Nat) : Int)) = ((t * 20 + 20 + 20 : Nat) : Int) := add64 (by omega)
      generalize t * 20 = x at *
      simp only [rd_slices_stableCmpFunc_Count_72_2, g1, w1]
      simp [-Int.natCast_add, e]
    · refine ⟨f, t, lres_stop ?_, h2, by omega, .refl _ _ _ _, hb⟩
      generalize t * 20 = x at *
      simp [-Int.natCast_add, rd_slices_stableCmpFunc_Count_72_2, e]

theorem merge_res (N : Nat) (hN : N ≤ 4398046511104) (a m b : Nat) (f : Nat → Cnt) (h1 : a < m) (h2 : m < b) (h3 : b ≤ N) (hf : okF f) (hs1 : srt cC f a m) (hs2 : srt cC f m b) :
    ∃ g, (m_slices_symMergeCmpFunc_Count [.i a, .i m, .i b, .l (dC N f)]).res = some (0, [.l (dC N g)]) ∧ Mv N a b g f ∧ srt cC g a b :=
  symMerge_res N hN 63 a m b f h1 h2 h3 (by have : (2 : Nat) ^ 63 = 9223372036854775808 := by decide
                                            omega) hf hs1 hs2

theorem st9 (N : Nat) (hN : N ≤ 4398046511104) (n : Nat) (hn : n ≤ N) (w : Nat) (hw : 0 < w) (hwn : w < n) : ∀ s t (f : Nat → Cnt), n ≤ t * (2 * w) + s → t * (2 * w) ≤ n → okF f → bls f (2 * w) n 0 (t * (2 * w)) → bls f w n (t * (2 * w)) n →
    ∃ g t', lres rd_slices_stableCmpFunc_Count_72_9 [.i n, .i w, .i (t * (2 * w) : Nat), .i (t * (2 * w) + 2 * w : Nat), .l (dC N f)] = some (0, [.i n, .i w, .i (t' * (2 * w) : Nat), .l (dC N g)]) ∧
      t' * (2 * w) ≤ n ∧ n < t' * (2 * w) + 2 * w ∧ Mv N 0 n g f ∧ bls g (2 * w) n 0 (t' * (2 * w)) ∧ bls g w n (t' * (2 * w)) n := by
  intro s
  induction s with
  | zero =>
    intro t f h1 h2 hf hb hc
    refine ⟨f, t, lres_stop ?_, h2, by omega, .refl _ _ _ _, hb, hc⟩
    generalize t * (2 * w) = x at *
    simp [-Int.natCast_add, -Int.natCast_mul, rd_slices_stableCmpFunc_Count_72_9, show ¬ (x + 2 * w ≤ n) by omega]
  | succ s ih =>
    intro t f h1 h2 hf hb hc
    by_cases e : t * (2 * w) + 2 * w ≤ n
    · have p1 : (2 * t) * w = t * (2 * w) := by rw [Nat.mul_comm 2 t, Nat.mul_assoc]
      have p2 : (2 * t + 1) * w = t * (2 * w) + w := by rw [Nat.add_mul, p1, Nat.one_mul]
      have p3 : (t + 1) * (2 * w) = t * (2 * w) + 2 * w := by rw [Nat.add_mul, Nat.one_mul]
      have s1 := hc (2 * t) (by omega) (by omega)
      have s2 := hc (2 * t + 1) (by omega) (by omega)
      rw [p1] at s1
      rw [p2] at s2
      obtain ⟨g, g1, g2, g3⟩ := merge_res N hN (t * (2 * w)) (t * (2 * w) + w) (t * (2 * w) + 2 * w) f (by omega) (by omega) (by omega) hf (srt_sub s1 (Nat.le_refl _) (by omega)) (srt_sub s2 (Nat.le_refl _) (by omega))
      have hb2 : bls g (2 * w) n 0 ((t + 1) * (2 * w)) := by
        intro u u1 u2
        by_cases e2 : u = t
        · subst e2; exact srt_sub g3 (Nat.le_refl _) (by omega)
        · have hlt : u < t + 1 := Nat.lt_of_mul_lt_mul_right u2
          have hle : (u + 1) * (2 * w) ≤ t * (2 * w) := Nat.mul_le_mul_right _ (by omega)
          rw [Nat.add_mul, Nat.one_mul] at hle
          exact srt_congr (hb u u1 (by omega)) fun k k1 k2 => g2.out k (.inl (by omega))
      have hc2 : bls g w n ((t + 1) * (2 * w)) n := by
        intro u u1 u2
        exact srt_congr (hc u (by omega) u2) fun k k1 k2 => g2.out k (.inr (by omega))
      obtain ⟨k, t', k1, k2, k3, k4, k5, k6⟩ := ih (t + 1) g (by omega) (by omega) (hf.mv g2) hb2 hc2
      refine ⟨k, t', ?_, k2, k3, k4.trans (g2.wide (by omega) e), k5, k6⟩
      rw [← k1, p3]
      refine lres_next ?_
      have w0 : w64 ((2 : Int) * (w : Int)) = ((2 * w : Nat) : Int) := by rw [w64_eq (by omega) (by omega)]; omega
      clear p1 p2 p3 s1 s2 hb2 hc2 k1 ih hb hc
      generalize t * (2 * w) = x at *
      have w1 : w64 (((x + 2 * w : Nat) : Int) + ((2 * w : Nat) : Int)) = ((x + 2 * w + 2 * w : Nat) : Int) := add64 (by omega)
      have w2 : w64 ((x : Int) + (w : Int)) = ((x + w : Nat) : Int) := add64 (by omega)
      simp only [rd_slices_stableCmpFunc_Count_72_9, w0, w1, w2, g1]
      simp [-Int.natCast_add, -Int.natCast_mul, e]
    · refine ⟨f, t, lres_stop ?_, h2, by omega, .refl _ _ _ _, hb, hc⟩
      generalize t * (2 * w) = x at *
      simp [-Int.natCast_add, -Int.natCast_mul, rd_slices_stableCmpFunc_Count_72_9, e]

theorem st7 (N : Nat) (hN : N ≤ 4398046511104) (n : Nat) (hn : n ≤ N) : ∀ s w (f : Nat → Cnt), n ≤ w + s → 0 < w → w < 8796093022208 → okF f → bls f w n 0 n →
    ∃ g, lres rd_slices_stableCmpFunc_Count_72_7 [.i n, .i w, .l (dC N f)] = some (0, [.l (dC N g)]) ∧ Mv N 0 n g f ∧ srt cC g 0 n := by
  intro s
  have fin : ∀ w (f : Nat → Cnt), n ≤ w → 0 < w → bls f w n 0 n → ∃ g, lres rd_slices_stableCmpFunc_Count_72_7 [.i n, .i w, .l (dC N f)] = some (0, [.l (dC N g)]) ∧ Mv N 0 n g f ∧ srt cC g 0 n := by
    intro w f h1 h2 hb
    refine ⟨f, lres_stop ?_, .refl _ _ _ _, ?_⟩
    · simp [rd_slices_stableCmpFunc_Count_72_7, show ¬ (w < n) by omega]
    · by_cases e : 0 < n
      · exact srt_sub (hb 0 (by omega) (by omega)) (by omega) (by omega)
      · exact srt_one preC f (by omega)
  induction s with
  | zero => intro w f h1 h2 h3 hf hb; exact fin w f (by omega) h2 hb
  | succ s ih =>
    intro w f h1 h2 h3 hf hb
    by_cases e : w < n
    · obtain ⟨g, t', g1, g2, g3, g4, g5, g6⟩ := st9 N hN n hn w h2 e n 0 f (by omega) (by omega) hf (fun u u1 u2 => by omega) (by simpa using hb)
      have hfg := hf.mv g4
      rw [Nat.zero_mul, Nat.zero_add] at g1
      have p1 : (2 * t') * w = t' * (2 * w) := by rw [Nat.mul_comm 2 t', Nat.mul_assoc]
      have p2 : (2 * t' + 1) * w = t' * (2 * w) + w := by rw [Nat.add_mul, p1, Nat.one_mul]
      have w0 : w64 ((2 : Int) * (w : Int)) = ((2 * w : Nat) : Int) := by rw [w64_eq (by omega) (by omega)]; omega
      have w3 : w64 ((w : Int) * (2 : Int)) = ((2 * w : Nat) : Int) := by rw [w64_eq (by omega) (by omega)]; omega
      have w2 : w64 (((t' * (2 * w) : Nat) : Int) + (w : Int)) = ((t' * (2 * w) + w : Nat) : Int) := add64 (by omega)
      have nxt : ∃ k, (t' * (2 * w) + w < n → (m_slices_symMergeCmpFunc_Count [.i (t' * (2 * w) : Nat), .i (t' * (2 * w) + w : Nat), .i n, .l (dC N g)]).res = some (0, [.l (dC N k)])) ∧ (¬ t' * (2 * w) + w < n → k = g) ∧ Mv N (t' * (2 * w)) n k g ∧ srt cC k (t' * (2 * w)) n := by
        by_cases e2 : t' * (2 * w) + w < n
        · have s1 := g6 (2 * t') (by omega) (by omega)
          have s2 := g6 (2 * t' + 1) (by omega) (by omega)
          rw [p1] at s1
          rw [p2] at s2
          obtain ⟨k, k1, k2, k3⟩ := merge_res N hN (t' * (2 * w)) (t' * (2 * w) + w) n g (by omega) e2 hn hfg (srt_sub s1 (Nat.le_refl _) (by omega)) (srt_sub s2 (Nat.le_refl _) (by omega))
          exact ⟨k, fun _ => k1, fun h => absurd e2 h, k2, k3⟩
        · refine ⟨g, fun h => absurd h e2, fun _ => rfl, .refl _ _ _ _, ?_⟩
          by_cases e3 : t' * (2 * w) < n
          · have s1 := g6 (2 * t') (by omega) (by omega)
            rw [p1] at s1
            exact srt_sub s1 (Nat.le_refl _) (by omega)
          · exact srt_one preC g (by omega)
      obtain ⟨k, k1, k2, k3, k4⟩ := nxt
      have hb2 : bls k (2 * w) n 0 n := by
        intro u u1 u2
        by_cases e2 : u = t'
        · subst e2; exact srt_sub k4 (Nat.le_refl _) (by omega)
        · have hlt : u < t' + 1 := by
            have p3 : (t' + 1) * (2 * w) = t' * (2 * w) + 2 * w := by rw [Nat.add_mul, Nat.one_mul]
            exact Nat.lt_of_mul_lt_mul_right (a := 2 * w) (by omega)
          have hle : (u + 1) * (2 * w) ≤ t' * (2 * w) := Nat.mul_le_mul_right _ (by omega)
          rw [Nat.add_mul, Nat.one_mul] at hle
          exact srt_congr (g5 u u1 (by omega)) fun i i1 i2 => k3.out i (.inl (by omega))
      obtain ⟨l, l1, l2, l3⟩ := ih (2 * w) k (by omega) (by omega) (by omega) (hfg.mv k3) hb2
      refine ⟨l, ?_, l2.trans ((k3.wide (by omega) (Nat.le_refl _)).trans g4), l3⟩
      rw [← l1]
      refine lres_next ?_
      have z : ((0 : Nat) : Int) = 0 := rfl
      rw [z] at g1
      simp only [rd_slices_stableCmpFunc_Count_72_7, w0, g1]
      clear p1 p2 hb2 g5 g6 hb ih fin
      generalize t' * (2 * w) = x at *
      by_cases e2 : x + w < n
      · simp [-Int.natCast_add, -Int.natCast_mul, e, w2, w3, e2, k1 e2]
      · have := k2 e2
        subst this
        simp [-Int.natCast_add, -Int.natCast_mul, e, w2, w3, e2]
    · exact fin w f (by omega) h2 hb

theorem stable_res (N : Nat) (hN : N ≤ 4398046511104) (f : Nat → Cnt) (hf : okF f) :
    ∃ g, (m_slices_stableCmpFunc_Count [.i N, .l (dC N f)]).res = some (0, [.l (dC N g)]) ∧ Mv N 0 N g f ∧ srt cC g 0 N := by
  obtain ⟨g, t', g1, g2, g3, g4, g5⟩ := st2 N hN N (Nat.le_refl _) N 0 f (by omega) (by omega) hf (fun u u1 u2 => by omega)
  rw [Nat.zero_mul, Nat.zero_add] at g1
  obtain ⟨k, k1, k2, k3⟩ := insertion_res N hN (t' * 20) N g g2 (Nat.le_refl _) (hf.mv g4)
  have hb : bls k 20 N 0 N := by
    intro u u1 u2
    by_cases e : u = t'
    · subst e; exact srt_sub k3 (Nat.le_refl _) (by omega)
    · exact srt_congr (g5 u u1 (by omega)) fun i i1 i2 => k2.out i (.inl (by omega))
  obtain ⟨l, l1, l2, l3⟩ := st7 N hN N (Nat.le_refl _) N 20 k (by omega) (by omega) (by omega) ((hf.mv g4).mv k2) hb
  refine ⟨l, ?_, l2.trans ((k2.wide (by omega) (Nat.le_refl _)).trans g4), l3⟩
  have z : ((0 : Nat) : Int) = 0 := rfl
  have z2 : ((20 : Nat) : Int) = 20 := rfl
  rw [z, z2] at g1
  rw [z2] at l1
  generalize t' * 20 = x at *
  simp only [m_slices_stableCmpFunc_Count, g1]
  simp [-Int.natCast_add, -Int.natCast_mul, k1, l1]

/-- what is sorted: it rises, and is what there was -/
theorem sort_res (b : List Cnt) (hb : okB b) : ∃ b' : List Cnt, (m_slices_SortStableFunc_ [.l (b.map Cnt.e)]).res = some (0, [.l (b'.map Cnt.e)]) ∧ b'.Perm b ∧ b'.Pairwise fun x y => cmpR x.row y.row ≤ 0 := by
  have ht := tab_of b ⟨[], 0⟩
  have hf : okF (fun i => b.getD i ⟨[], 0⟩) := by
    intro k
    simp only [List.getD]
    cases h : b[k]? with
    | none => simp
    | some x => exact (hb.2 x (List.mem_of_getElem? h)).1.1
  obtain ⟨g, g1, g2, g3⟩ := stable_res b.length hb.1 (fun i => b.getD i ⟨[], 0⟩) hf
  refine ⟨tab b.length g, ?_, ?_, ?_⟩
  · have e : b.map Cnt.e = dC b.length (fun i => b.getD i ⟨[], 0⟩) := by unfold dC; rw [ht]
    rw [e]
    simp only [m_slices_SortStableFunc_, dC_ln, g1]
    simp [dC]
  · have := g2.perm; rwa [ht] at this
  · rw [List.pairwise_iff_getElem]
    intro i j h1 h2 h3
    rw [tab_get, tab_get]
    exact g3 i j (by omega) (by omega) (by simpa using h2)

end Go.Proofs.Ytinnnhiaamjjlaa

set_option linter.unusedVariables false
set_option linter.unusedSimpArgs false
namespace Go.Proofs.Ytinnnhiaamjjlaa
open Go Go.Pu

theorem map_app_e (a b : List Cnt) : (a ++ b).map Cnt.e = a.map Cnt.e ++ b.map Cnt.e := List.map_append
theorem row_e (c : Cnt) : cL c.e 0 = re c.row := rfl
theorem n_e (c : Cnt) : cI c.e 1 = c.n := rfl
theorem one_e (r : List Val) (n : Int) : [Cnt.e ⟨r, n⟩] = [[PV.lst 28 (re r), pI n]] := rfl

theorem sum_inner (S : List Cnt) (hS : okB S) (out : List (List PV)) (r : List Val) : ∀ m i (acc : Int), S.length - i = m → i ≤ S.length → acc.natAbs + absN (S.drop i) ≤ 4611686018427387904 →
    lres rd_bag_Sum_53_7 [.i (i : Nat), .l (S.map Cnt.e), .l out, .i acc, .l (re r)] =
      some (0, [.i ((i + ((S.drop i).takeWhile fun d => decide (d.row = r)).length : Nat) : Int), .l (S.map Cnt.e), .l out, .i (acc + sumN ((S.drop i).takeWhile fun d => decide (d.row = r))), .l (re r)]) := by
  have hn := hS.1
  intro m
  induction m with
  | zero =>
    intro i acc h1 h2 h3
    have : i = S.length := by omega
    subst this
    rw [List.drop_length]
    refine lres_stop ?_
    simp [rd_bag_Sum_53_7, sumN]
  | succ m ih =>
    intro i acc h1 h2 h3
    have h : i < S.length := by omega
    have hlm : i < (S.map Cnt.e).length := by simpa using h
    have hd := List.drop_eq_getElem_cons h
    have hc := row_Compare_res S[i].row r (hS.2 _ (List.getElem_mem h)).1.1
    rw [hd] at h3 ⊢
    simp only [absN] at h3
    by_cases e : S[i].row = r
    · have h0 : cmpR S[i].row r = 0 := (cR.zero _ _).2 e
      have w : w64 (acc + S[i].n) = acc + S[i].n := w64_eq (by omega) (by omega)
      have hr : (rd_bag_Sum_53_7 [.i (i : Nat), .l (S.map Cnt.e), .l out, .i acc, .l (re r)]).val = some (.next [.i ((i + 1 : Nat) : Int), .l (S.map Cnt.e), .l out, .i (acc + S[i].n), .l (re r)]) := by
        simp only [rd_bag_Sum_53_7, rt_test, rt_next, rt_stop, el_map _ _ h, row_e, n_e, ln_map, inR_cast, Int.ofNat_lt, h, hlm, decide_true, if_true, Int.toNat_natCast, hc, h0, ok_some', out_some, uI_0, beq_self_eq_true, w, w64_succ (i := i) (by omega)]
      rw [lres_next hr, ih (i + 1) (acc + S[i].n) (by omega) (by omega) (by omega)]
      rw [List.takeWhile_cons, if_pos (by simpa using e), List.length_cons]
      unfold sumN
      rw [List.map_cons, List.sum_cons]
      congr 2
      · congr 2
        · omega
        · congr 3; omega
    · have h0 : ¬ cmpR S[i].row r = 0 := fun h => e ((cR.zero _ _).1 h)
      have h0' : (cmpR S[i].row r == 0) = false := by rw [beq_eq_false_iff_ne]; exact h0
      rw [List.takeWhile_cons, if_neg (by simpa using e)]
      refine lres_stop ?_
      simp only [rd_bag_Sum_53_7, rt_test, rt_next, rt_stop, el_map _ _ h, row_e, n_e, ln_map, inR_cast, Int.ofNat_lt, h, hlm, decide_true, if_true, Int.toNat_natCast, hc, h0', ok_some', out_some, uI_0, beq_self_eq_true, Bool.false_eq_true, if_false]
      simp [sumN]

theorem sum_outer (S : List Cnt) (hS : okB S) (ha : absN S ≤ 4611686018427387904) : ∀ n i (o : List Cnt), S.length - i ≤ n → i ≤ S.length → o.length ≤ i →
    lres rd_bag_Sum_53_5 [.i (i : Nat), .l (S.map Cnt.e), .l (o.map Cnt.e)] = some (0, [.l ((o ++ grp n (S.drop i)).map Cnt.e)]) := by
  have hn := hS.1
  intro n
  induction n with
  | zero =>
    intro i o h1 h2 h3
    have : i = S.length := by omega
    subst this
    refine lres_stop ?_
    simp [rd_bag_Sum_53_5, grp]
  | succ n ih =>
    intro i o h1 h2 h3
    by_cases h : i < S.length
    · have hlm : i < (S.map Cnt.e).length := by simpa using h
      have hd := List.drop_eq_getElem_cons h
      have hb := (hS.2 _ (List.getElem_mem h)).1.1
      have habs := absN_app (S.take i) (S.drop i)
      rw [List.take_append_drop] at habs
      have hin := sum_inner S hS (o.map Cnt.e) S[i].row (S.length - i) i 0 rfl h2 (by simp; omega)
      have e1 : (0 + (re S[i].row).length) * 32 ≤ 140737488355328 := by simp [re]; omega
      have e2 : ((o.map Cnt.e).length + 1) * 32 ≤ 140737488355328 := by rw [List.length_map]; omega
      rw [hd] at hin ⊢
      rw [grp]
      rw [List.takeWhile_cons, if_pos (by simp), List.length_cons] at hin
      have hsum : sumN (S[i] :: (S.drop (i + 1)).takeWhile fun d => decide (d.row = S[i].row)) = S[i].n + sumN ((S.drop (i + 1)).takeWhile fun d => decide (d.row = S[i].row)) := by
        unfold sumN; rw [List.map_cons, List.sum_cons]
      rw [hsum, Int.zero_add] at hin
      generalize hT : (S.drop (i + 1)).takeWhile (fun d => decide (d.row = S[i].row)) = T at *
      have hdw : S.drop (i + (T.length + 1)) = (S.drop (i + 1)).dropWhile fun d => decide (d.row = S[i].row) := by
        have a1 : S.drop (i + 1) = T ++ (S.drop (i + 1)).dropWhile fun d => decide (d.row = S[i].row) := by rw [← hT, List.takeWhile_append_dropWhile]
        have a2 : (S.drop (i + 1)).drop T.length = (S.drop (i + 1)).dropWhile fun d => decide (d.row = S[i].row) := by
          conv => lhs; rw [a1]
          rw [List.drop_left]
        rw [← a2, List.drop_drop]
        congr 1; omega
      have hle : i + (T.length + 1) ≤ S.length := by
        have : T.length ≤ (S.drop (i + 1)).length := by rw [← hT]; exact (List.takeWhile_sublist _).length_le
        simp only [List.length_drop] at this
        omega
      have hnext := fun o' (ho : o'.length ≤ i + (T.length + 1)) => ih (i + (T.length + 1)) o' (by omega) hle ho
      rw [hdw] at hnext
      by_cases hz : S[i].n + sumN T = 0
      · have hr : (rd_bag_Sum_53_5 [.i (i : Nat), .l (S.map Cnt.e), .l (o.map Cnt.e)]).val = some (.next [.i ((i + (T.length + 1) : Nat) : Int), .l (S.map Cnt.e), .l (o.map Cnt.e)]) := by
          simp only [rd_bag_Sum_53_5, rt_test, rt_next, rt_stop, el_map _ _ h, row_e, ln_map, inR_cast, Int.ofNat_lt, h, hlm, decide_true, if_true, Int.toNat_natCast, e1, hin, ok_some', out_some, uI_0, uI_s, uL_s, uL_0, beq_self_eq_true, hz, bne_self_eq_false, Bool.false_eq_true, if_false]
        rw [lres_next hr, hnext o (by omega)]
        unfold one1
        rw [if_neg (by omega), List.nil_append]
      · have hz' : (S[i].n + sumN T != 0) = true := by simpa using hz
        have hr : (rd_bag_Sum_53_5 [.i (i : Nat), .l (S.map Cnt.e), .l (o.map Cnt.e)]).val = some (.next [.i ((i + (T.length + 1) : Nat) : Int), .l (S.map Cnt.e), .l ((o ++ [(⟨S[i].row, S[i].n + sumN T⟩ : Cnt)]).map Cnt.e)]) := by
          rw [map_app_e, List.map_cons, List.map_nil, one_e]
          simp only [rd_bag_Sum_53_5, rt_test, rt_next, rt_stop, el_map _ _ h, row_e, ln_map, inR_cast, Int.ofNat_lt, h, hlm, decide_true, if_true, Int.toNat_natCast, e1, e2, hin, ok_some', out_some, uI_0, uI_s, uL_s, uL_0, beq_self_eq_true, hz']
        rw [lres_next hr, hnext _ (by simp; omega)]
        unfold one1
        rw [if_pos hz, List.append_assoc]
    · have : i = S.length := by omega
      subst this
      refine lres_stop ?_
      simp [rd_bag_Sum_53_5, grp]

theorem Sum_res (l : List Cnt) (hl : okB l) (ha : absN l ≤ 4611686018427387904) : (m_bag_Sum [.l (l.map Cnt.e)]).res = some (0, [.l ((sumB l).map Cnt.e)]) := by
  obtain ⟨s, s1, s2, s3⟩ := sort_res l hl
  have hs : okB s := ⟨by rw [s2.length_eq]; exact hl.1, fun c hc => hl.2 c (s2.mem_iff.1 hc)⟩
  have h := sum_outer s hs (by rw [absN_perm s2]; exact ha) s.length 0 [] (by omega) (by omega) (by simp)
  have e : grp s.length s = sumB l := sumB_eq (grp_canon _ s3) fun r => by rw [grp_cnt _ _ _ (Nat.le_refl _), cnt_perm s2]
  rw [List.drop_zero, List.nil_append, e] at h
  simp only [Int.natCast_zero, List.map_nil] at h
  have e1 : (0 + (l.map Cnt.e).length) * 32 ≤ 140737488355328 := by have := hl.1; rw [List.length_map]; omega
  simp only [m_bag_Sum, res_test, res_stop, e1, decide_true, if_true, s1, ok_some', out_some, uL_0, beq_self_eq_true, h]

end Go.Proofs.Ytinnnhiaamjjlaa

set_option linter.unusedVariables false
set_option linter.unusedSimpArgs false
namespace Go.Proofs.Ytinnnhiaamjjlaa
open Go Go.Pu

theorem one_okB {l : List (List Val)} (h0 : l.length ≤ 1000000) (hl : ∀ r ∈ l, okR r) : okB (l.map oneC) := by
  refine ⟨by rw [List.length_map]; omega, fun c hc => ?_⟩
  obtain ⟨r, hr, rfl⟩ := List.mem_map.1 hc
  exact ⟨hl r hr, by show -9223372036854775808 ≤ (1 : Int) ∧ (1 : Int) < 9223372036854775808; omega⟩
theorem one_abs (l : List (List Val)) : absN (l.map oneC) = l.length := by
  induction l with
  | nil => rfl
  | cons r l ih => rw [List.map_cons, absN, ih, List.length_cons]; show (1 : Int).natAbs + _ = _; omega

theorem bag_Of_res (l : List (List Val)) (h0 : l.length ≤ 1000000) (hl : ∀ r ∈ l, okR r) : (m_bag_Of [.l (l.map reR)]).res = some (0, [.l ((ofB l).map Cnt.e)]) := by
  have h := loop_all' l (rd := rd_bag_Of_38_3) (fun i => [.l (l.map reR), .i (l.length : Nat), .i (i : Nat), .l (((l.take i).map oneC).map Cnt.e)]) mayR 0 1 [] [.l ((l.map oneC).map Cnt.e)] (by simp [rd_bag_Of_38_3]) (by
    intro i h
    have h1 := row_May_res l[i] (hl _ (List.getElem_mem h))
    have e1 : cL (reR l[i]) 0 = re l[i] := rfl
    by_cases c : mayR l[i] = true
    · have e2 : ((((l.take i).map oneC).map Cnt.e).length + 1) * 32 ≤ 140737488355328 := by
        have : (((l.take i).map oneC).map Cnt.e).length ≤ i := by simp; omega
        omega
      have e3 : ((l.take (i + 1)).map oneC).map Cnt.e = ((l.take i).map oneC).map Cnt.e ++ [[PV.lst 28 (re l[i]), pI 1]] := by
        rw [take_one l h, List.map_append, List.map_append]; rfl
      rw [e3]
      generalize ((l.take i).map oneC).map Cnt.e = A at *
      simp [rd_bag_Of_38_3, el_map _ _ h, h, e1, h1, c, e2, w64_succ (i := i) (by omega)]
    · simp [rd_bag_Of_38_3, el_map _ _ h, h, e1, h1, c])
  simp only [Int.natCast_zero, List.take_zero, List.map_nil] at h
  unfold ofB
  by_cases e : l.all mayR = true
  · rw [if_pos e] at h ⊢
    have hs := Sum_res (l.map oneC) (one_okB h0 hl) (by rw [one_abs]; omega)
    generalize (l.map oneC).map Cnt.e = A at *
    simp only [m_bag_Of, ln_map, h, ok_some', out_some, uL_0, hs, res_test, res_stop, beq_self_eq_true, if_true]
    rfl
  · rw [if_neg e] at h ⊢
    simp [m_bag_Of, h]

end Go.Proofs.Ytinnnhiaamjjlaa

set_option linter.unusedVariables false
set_option linter.unusedSimpArgs false
namespace Go.Proofs.Ytinnnhiaamjjlaa
open Go Go.Pu

end Go.Proofs.Ytinnnhiaamjjlaa

set_option linter.unusedVariables false
set_option linter.unusedSimpArgs false
namespace Go.Proofs.Ytinnnhiaamjjlaa
open Go Go.Pu

end Go.Proofs.Ytinnnhiaamjjlaa

set_option linter.unusedVariables false
set_option linter.unusedSimpArgs false
namespace Go.Proofs.Ytinnnhiaamjjlaa
open Go Go.Pu

end Go.Proofs.Ytinnnhiaamjjlaa
