/- Plain data, values, rows, tables: what their functions come to. -/
import Derived.Test.YtfjjionebffekaaKB
import Derived.Test.YtfjjionebffekaaTC
import Derived.Test.YtfjjionebffekaaGA
set_option linter.unusedVariables false
set_option linter.unusedSimpArgs false
namespace Go.Proofs.Ytfjjionebffekaa
open Go Go.Pu

structure Val where
  k : Int
  n : Int
  s : List UInt8
  deriving DecidableEq

instance : Inhabited Val := ⟨⟨0, 0, []⟩⟩

def Val.e (v : Val) : List PV := [pI v.k, pI v.n, pS (bs v.s)]
def re (r : List Val) : List (List PV) := r.map Val.e

@[simp] theorem ln_re (r : List Val) : ln (re r) = r.length := ln_map _ _
theorem el_re (r : List Val) {i : Nat} (h : i < r.length) : el (re r) i = Val.e r[i] := el_map _ _ h

/-! the order of values, and of rows -/

def cmpB (a b : UInt8) : Int := Cmp.cmpI a.toNat b.toNat

theorem bytes_lst : ∀ a b : List UInt8, Lib.compareBytes a b = Cmp.lstC cmpB a b
  | [], [] => rfl
  | [], _ :: _ => rfl
  | _ :: _, [] => rfl
  | a :: xs, b :: ys => by
    simp only [Lib.compareBytes, Cmp.lstC, bytes_lst xs ys]
    have h : ∀ x y : UInt8, x < y ↔ (x.toNat : Int) < y.toNat := fun x y => by rw [UInt8.lt_iff_toNat_lt]; omega
    simp only [cmpB, Cmp.cmpI, Cmp.thn, h]
    (repeat' split) <;> first | rfl | (exfalso; omega) | simp_all

theorem cmpBytes : Cmp Lib.compareBytes := by
  have h1 : Cmp cmpB := Cmp.int.pull (fun x : UInt8 => (x.toNat : Int)) fun a b h => UInt8.toNat_inj.1 (by exact_mod_cast h)
  have h2 := h1.list
  have : Lib.compareBytes = Cmp.lstC cmpB := by funext a b; exact bytes_lst a b
  rw [this]; exact h2

def cmpV (a b : Val) : Int := Cmp.thn (Cmp.cmpI a.k b.k) (Cmp.thn (Cmp.cmpI a.n b.n) (Lib.compareBytes a.s b.s))

theorem cV : Cmp cmpV :=
  (Cmp.int.both (Cmp.int.both cmpBytes)).pull (fun v : Val => (v.k, v.n, v.s)) fun a b h => by
    obtain ⟨_, _, _⟩ := a; obtain ⟨_, _, _⟩ := b; simp only [Prod.mk.injEq] at h; obtain ⟨rfl, rfl, rfl⟩ := h; rfl

def cmpR : List Val → List Val → Int := Cmp.lstC cmpV
theorem cR : Cmp cmpR := cV.list

/-- may a value be? a row? -/
def mayV (v : Val) : Bool :=
  if v.k = 0 then v.n == 0 && v.s == [] else if v.k = 1 then (v.n == 0 || v.n == 1) && v.s == [] else if v.k = 2 then v.s == [] else v.k == 3 && v.n == 0 && decide (v.s.length ≤ 1000)
def mayR (r : List Val) : Bool := decide (r.length ≤ 40) && r.all mayV

/-! records -/

structure Rec where
  row : List Val
  tid : Int
  deriving DecidableEq
structure Rel where
  name : List UInt8
  recs : List Rec
  deriving DecidableEq
structure Read where
  table : List UInt8
  key : Val
  tid : Int
  deriving DecidableEq
structure Rng where
  table : List UInt8
  lo : Val
  hi : Val
  found : List Read
  deriving DecidableEq
structure Cnt where
  row : List Val
  n : Int
  deriving DecidableEq
structure Look where
  view : List UInt8
  rows : List Cnt
  deriving DecidableEq
structure Src where
  name : List UInt8
  rows : List Cnt
  deriving DecidableEq
structure Seen where
  reads : List Read
  ranges : List Rng
  looks : List Look

instance : Inhabited Rec := ⟨⟨[], 0⟩⟩
instance : Inhabited Rel := ⟨⟨[], []⟩⟩

def Rec.e (c : Rec) : List PV := [.lst 24 (re c.row), pI c.tid]
def Rel.e (r : Rel) : List PV := [pS (bs r.name), .lst 59 (r.recs.map Rec.e)]
def Read.e (x : Read) : List PV := [pS (bs x.table), pI x.key.k, pI x.key.n, pS (bs x.key.s), pI x.tid]
def Rng.e (x : Rng) : List PV := [pS (bs x.table), pI x.lo.k, pI x.lo.n, pS (bs x.lo.s), pI x.hi.k, pI x.hi.n, pS (bs x.hi.s), .lst 43 (x.found.map Read.e)]
def Cnt.e (c : Cnt) : List PV := [.lst 24 (re c.row), pI c.n]
def Look.e (x : Look) : List PV := [pS (bs x.view), .lst 83 (x.rows.map Cnt.e)]
def Src.e (x : Src) : List PV := [pS (bs x.name), .lst 83 (x.rows.map Cnt.e)]

/-! what a law is handed -/

def big : Nat := 140737488355328

theorem lst_map {α : Type} {f : α → List PV} {p : α → Prop} : ∀ {es : List (List PV)}, (∀ e ∈ es, ∃ a, e = f a ∧ p a) → ∃ l : List α, es = l.map f ∧ ∀ a ∈ l, p a
  | [], _ => ⟨[], rfl, fun _ h => by cases h⟩
  | e :: es, h => by
    obtain ⟨a, rfl, ha⟩ := h e (by simp)
    obtain ⟨l, rfl, hl⟩ := lst_map (es := es) fun e he => h e (by simp [he])
    exact ⟨a :: l, rfl, List.forall_mem_cons.2 ⟨ha, hl⟩⟩

theorem gd_int {P : Program} {x : PV} (h : Gd P (.int .i64) x) : ∃ n, x = pI n ∧ -9223372036854775808 ≤ n ∧ n < 9223372036854775808 := by
  cases h with
  | int _ n hn =>
    refine ⟨n, rfl, ?_⟩
    simp only [Lit.wf, IntKind.min, IntKind.max, IntKind.bits, IntKind.signed, Bool.and_eq_true, decide_eq_true_eq] at hn
    simp at hn
    omega

theorem gd_str {P : Program} {x : PV} (h : Gd P .str x) : ∃ s : List UInt8, x = pS (bs s) ∧ s.length ≤ big := by
  cases h with
  | str s hs => exact ⟨s.data.toList, rfl, Nat.le_trans (by rw [Array.length_toList]; exact hs) (by decide)⟩

theorem gd_lst {P : Program} {t : TypeId} {x : PV} (h : Gd P (.sl t) x) : ∃ es, x = .lst t es ∧ es.length * P.bytesOf t ≤ big ∧ ∀ e ∈ es, Gds P (kds P t) e := by
  cases h with
  | sl t es h1 h2 h3 h4 =>
    refine ⟨es, rfl, Nat.le_trans h1 (by decide), fun e he => ?_⟩
    obtain ⟨i, hi, rfl⟩ := List.mem_iff_getElem.1 he
    have e1 : es.getD i [] = es[i] := by simp [List.getD, hi]
    have g3 := h3 i hi
    have g4 := fun j => h4 i j hi
    rw [e1] at g3
    simp only [e1] at g4
    exact ⟨g3, g4⟩

def i64 (n : Int) : Prop := -9223372036854775808 ≤ n ∧ n < 9223372036854775808
def Val.ok (v : Val) : Prop := i64 v.k ∧ i64 v.n ∧ v.s.length ≤ big
def okR (r : List Val) : Prop := r.length ≤ 4398046511104 ∧ ∀ v ∈ r, v.ok
def Rec.ok (c : Rec) : Prop := okR c.row ∧ i64 c.tid
def Rel.ok (r : Rel) : Prop := r.name.length ≤ big ∧ r.recs.length ≤ 4398046511104 ∧ ∀ c ∈ r.recs, c.ok
def Read.ok (x : Read) : Prop := x.table.length ≤ big ∧ x.key.ok ∧ i64 x.tid
def Rng.ok (x : Rng) : Prop := x.table.length ≤ big ∧ x.lo.ok ∧ x.hi.ok ∧ x.found.length ≤ 4398046511104 ∧ ∀ c ∈ x.found, c.ok
def Cnt.ok (c : Cnt) : Prop := okR c.row ∧ i64 c.n
def okB (b : List Cnt) : Prop := b.length ≤ 4398046511104 ∧ ∀ c ∈ b, c.ok
def Look.ok (x : Look) : Prop := x.view.length ≤ big ∧ okB x.rows
def Src.ok (x : Src) : Prop := x.name.length ≤ big ∧ okB x.rows

/-- cells, one by one -/
theorem gds_cells {P : Program} {ks : List Kd} {xs : List PV} (h : Gds P ks xs) : xs.length = ks.length ∧ ∀ j, j < ks.length → Gd P (ks.getD j .other) (xs.getD j .top) := ⟨h.len, h.gd⟩

theorem val_cells {a b c : PV} (h0 : Gd Try.prog (.int .i64) a) (h1 : Gd Try.prog (.int .i64) b) (h2 : Gd Try.prog .str c) : ∃ v : Val, a = pI v.k ∧ b = pI v.n ∧ c = pS (bs v.s) ∧ v.ok := by
  obtain ⟨k, rfl, k1⟩ := gd_int h0
  obtain ⟨n, rfl, n1⟩ := gd_int h1
  obtain ⟨s, rfl, s1⟩ := gd_str h2
  exact ⟨⟨k, n, s⟩, rfl, rfl, rfl, k1, n1, s1⟩

/-- a list of some cells, each of its kind -/
theorem gd_list {α : Type} {t : TypeId} {ks : List Kd} {b : Nat} {f : α → List PV} {p : α → Prop} (hk : kds Try.prog t = ks) (hb : Try.prog.bytesOf t = b) (hb1 : 32 ≤ b)
    (hc : ∀ e, Gds Try.prog ks e → ∃ a, e = f a ∧ p a) {x : PV} (h : Gd Try.prog (.sl t) x) : ∃ l : List α, x = .lst t (l.map f) ∧ l.length ≤ 4398046511104 ∧ ∀ a ∈ l, p a := by
  obtain ⟨es, rfl, h1, h2⟩ := gd_lst h
  rw [hk] at h2
  rw [hb] at h1
  obtain ⟨l, rfl, hl⟩ := lst_map fun e he => hc e (h2 e he)
  refine ⟨l, rfl, ?_, hl⟩
  rw [List.length_map] at h1
  have : l.length * 32 ≤ l.length * b := Nat.mul_le_mul_left _ hb1
  unfold big at h1
  omega

theorem gd_row {x : PV} (h : Gd Try.prog (.sl 24) x) : ∃ r : List Val, x = .lst 24 (re r) ∧ okR r := by
  obtain ⟨l, e, h1, h2⟩ := gd_list (f := Val.e) (p := Val.ok) (ks := [.int .i64, .int .i64, .str]) (b := 32) (by kernel_rfl) (by kernel_rfl) (by decide) (fun e he => by
    obtain ⟨hl, hg⟩ := gds_cells he
    match e, hl, hg with
    | [a, b, c], _, hg =>
      obtain ⟨v, rfl, rfl, rfl, hv⟩ := val_cells (hg 0 (by decide)) (hg 1 (by decide)) (hg 2 (by decide))
      exact ⟨v, rfl, hv⟩) h
  exact ⟨l, e, h1, h2⟩

theorem gd_recs {x : PV} (h : Gd Try.prog (.sl 59) x) : ∃ l : List Rec, x = .lst 59 (l.map Rec.e) ∧ l.length ≤ 4398046511104 ∧ ∀ c ∈ l, c.ok :=
  gd_list (ks := [.sl 24, .int .i64]) (b := 32) (by kernel_rfl) (by kernel_rfl) (by decide) (fun e he => by
    obtain ⟨hl, hg⟩ := gds_cells he
    match e, hl, hg with
    | [a, b], _, hg =>
      obtain ⟨r, rfl, hr⟩ := gd_row (hg 0 (by decide))
      obtain ⟨n, rfl, hn⟩ := gd_int (hg 1 (by decide))
      exact ⟨⟨r, n⟩, rfl, hr, hn⟩) h

theorem gd_rels {x : PV} (h : Gd Try.prog (.sl 40) x) : ∃ l : List Rel, x = .lst 40 (l.map Rel.e) ∧ l.length ≤ 4398046511104 ∧ ∀ c ∈ l, c.ok :=
  gd_list (ks := [.str, .sl 59]) (b := 40) (by kernel_rfl) (by kernel_rfl) (by decide) (fun e he => by
    obtain ⟨hl, hg⟩ := gds_cells he
    match e, hl, hg with
    | [a, b], _, hg =>
      obtain ⟨s, rfl, hs⟩ := gd_str (hg 0 (by decide))
      obtain ⟨l, rfl, h1, h2⟩ := gd_recs (hg 1 (by decide))
      exact ⟨⟨s, l⟩, rfl, hs, h1, h2⟩) h

theorem gd_reads {x : PV} (h : Gd Try.prog (.sl 43) x) : ∃ l : List Read, x = .lst 43 (l.map Read.e) ∧ l.length ≤ 4398046511104 ∧ ∀ c ∈ l, c.ok :=
  gd_list (ks := [.str, .int .i64, .int .i64, .str, .int .i64]) (b := 56) (by kernel_rfl) (by kernel_rfl) (by decide) (fun e he => by
    obtain ⟨hl, hg⟩ := gds_cells he
    match e, hl, hg with
    | [a, b, c, d, f], _, hg =>
      obtain ⟨s, rfl, hs⟩ := gd_str (hg 0 (by decide))
      obtain ⟨v, rfl, rfl, rfl, hv⟩ := val_cells (hg 1 (by decide)) (hg 2 (by decide)) (hg 3 (by decide))
      obtain ⟨n, rfl, hn⟩ := gd_int (hg 4 (by decide))
      exact ⟨⟨s, v, n⟩, rfl, hs, hv, hn⟩) h

theorem gd_rngs {x : PV} (h : Gd Try.prog (.sl 47) x) : ∃ l : List Rng, x = .lst 47 (l.map Rng.e) ∧ l.length ≤ 4398046511104 ∧ ∀ c ∈ l, c.ok :=
  gd_list (ks := [.str, .int .i64, .int .i64, .str, .int .i64, .int .i64, .str, .sl 43]) (b := 104) (by kernel_rfl) (by kernel_rfl) (by decide) (fun e he => by
    obtain ⟨hl, hg⟩ := gds_cells he
    match e, hl, hg with
    | [a, b, c, d, f, g, i, j], _, hg =>
      obtain ⟨s, rfl, hs⟩ := gd_str (hg 0 (by decide))
      obtain ⟨v, rfl, rfl, rfl, hv⟩ := val_cells (hg 1 (by decide)) (hg 2 (by decide)) (hg 3 (by decide))
      obtain ⟨w, rfl, rfl, rfl, hw⟩ := val_cells (hg 4 (by decide)) (hg 5 (by decide)) (hg 6 (by decide))
      obtain ⟨l, rfl, h1, h2⟩ := gd_reads (hg 7 (by decide))
      exact ⟨⟨s, v, w, l⟩, rfl, hs, hv, hw, h1, h2⟩) h

theorem gd_bag {x : PV} (h : Gd Try.prog (.sl 83) x) : ∃ l : List Cnt, x = .lst 83 (l.map Cnt.e) ∧ l.length ≤ 4398046511104 ∧ ∀ c ∈ l, c.ok :=
  gd_list (ks := [.sl 24, .int .i64]) (b := 32) (by kernel_rfl) (by kernel_rfl) (by decide) (fun e he => by
    obtain ⟨hl, hg⟩ := gds_cells he
    match e, hl, hg with
    | [a, b], _, hg =>
      obtain ⟨r, rfl, hr⟩ := gd_row (hg 0 (by decide))
      obtain ⟨n, rfl, hn⟩ := gd_int (hg 1 (by decide))
      exact ⟨⟨r, n⟩, rfl, hr, hn⟩) h

theorem gd_looks {x : PV} (h : Gd Try.prog (.sl 55) x) : ∃ l : List Look, x = .lst 55 (l.map Look.e) ∧ l.length ≤ 4398046511104 ∧ ∀ c ∈ l, c.ok :=
  gd_list (ks := [.str, .sl 83]) (b := 40) (by kernel_rfl) (by kernel_rfl) (by decide) (fun e he => by
    obtain ⟨hl, hg⟩ := gds_cells he
    match e, hl, hg with
    | [a, b], _, hg =>
      obtain ⟨s, rfl, hs⟩ := gd_str (hg 0 (by decide))
      obtain ⟨l, rfl, h1, h2⟩ := gd_bag (hg 1 (by decide))
      exact ⟨⟨s, l⟩, rfl, hs, h1, h2⟩) h

theorem gd_srcs {x : PV} (h : Gd Try.prog (.sl 90) x) : ∃ l : List Src, x = .lst 90 (l.map Src.e) ∧ l.length ≤ 4398046511104 ∧ ∀ c ∈ l, c.ok :=
  gd_list (ks := [.str, .sl 83]) (b := 40) (by kernel_rfl) (by kernel_rfl) (by decide) (fun e he => by
    obtain ⟨hl, hg⟩ := gds_cells he
    match e, hl, hg with
    | [a, b], _, hg =>
      obtain ⟨s, rfl, hs⟩ := gd_str (hg 0 (by decide))
      obtain ⟨l, rfl, h1, h2⟩ := gd_bag (hg 1 (by decide))
      exact ⟨⟨s, l⟩, rfl, hs, h1, h2⟩) h

end Go.Proofs.Ytfjjionebffekaa

set_option linter.unusedVariables false
set_option linter.unusedSimpArgs false
namespace Go.Proofs.Ytfjjionebffekaa
open Go Go.Pu

theorem cmp_Compare_int_res (a b : Int) : (m_cmp_Compare_int [.i a, .i b]).res = some (0, [.i (Cmp.cmpI a b)]) := by
  simp only [m_cmp_Compare_int, Cmp.cmpI, res_test, res_stop, bne_self_eq_false, Bool.false_eq_true, if_false, decide_eq_true_eq]
  split
  · rfl
  · split <;> rfl

theorem value_May_res (v : Val) : (m_value_May [.i v.k, .i v.n, .s (bs v.s)]).res = some (0, [.b (mayV v)]) := by
  simp only [m_value_May, mayV, res_test, res_stop, bs_toList, bs_size]
  by_cases h0 : v.k = 0
  · simp [h0]
  · by_cases h1 : v.k = 1
    · by_cases h2 : v.n = 0
      · simp [h1, h2]
      · by_cases h3 : v.n = 1 <;> simp [h1, h2, h3]
    · by_cases h2 : v.k = 2
      · simp [h2]
      · by_cases h3 : v.k = 3
        · have h5 : ((v.s.length : Int) ≤ 1000) ↔ v.s.length ≤ 1000 := by omega
          by_cases h4 : v.n = 0
          · simp [h3, h4, h5]
          · simp [h3, h4]
        · simp [h0, h1, h2, h3]

theorem R01_May_res (v : Val) : (m_R01_May [.i v.k, .i v.n, .s (bs v.s)]).res = some (0, [.b (mayV v)]) := by
  simp only [m_R01_May, mayV, res_test, res_stop, bs_toList, bs_size]
  by_cases h0 : v.k = 0
  · by_cases hs : v.s = []
    · by_cases h4 : v.n = 0
      · simp [h0, hs, h4]
      · by_cases h5 : 0 ≤ v.n
        · have : ¬ v.n ≤ 0 := by omega
          simp [h0, hs, h4, h5, this]
        · simp [h0, hs, h4, h5]
    · simp [h0, hs]
  · by_cases h1 : v.k = 1
    · by_cases hs : v.s = []
      · by_cases h5 : 0 ≤ v.n
        · by_cases h6 : v.n ≤ 1
          · have : v.n = 0 ∨ v.n = 1 := by omega
            rcases this with h | h <;> simp [h1, hs, h]
          · have h7 : ¬ v.n = 0 := by omega
            have h8 : ¬ v.n = 1 := by omega
            simp [h1, hs, h5, h6, h7, h8]
        · have h7 : ¬ v.n = 0 := by omega
          have h8 : ¬ v.n = 1 := by omega
          simp [h1, hs, h5, h7, h8]
      · simp [h1, hs]
    · by_cases h2 : v.k = 2
      · simp [h2]
      · by_cases h3 : v.k = 3
        · have h5 : ((v.s.length : Int) ≤ 1000) ↔ v.s.length ≤ 1000 := by omega
          by_cases h4 : v.n = 0
          · simp [h3, h4, h5]
          · simp [h3, h4]
        · simp [h0, h1, h2, h3]

theorem compareBytes_less : ∀ (a b : List UInt8), Lib.compareBytes a b = if Op.bytesLess a b = true then -1 else if a = b then 0 else 1
  | [], [] => by simp [Lib.compareBytes, Op.bytesLess]
  | [], _ :: _ => by simp [Lib.compareBytes, Op.bytesLess]
  | _ :: _, [] => by simp [Lib.compareBytes, Op.bytesLess]
  | a :: xs, b :: ys => by
    unfold Lib.compareBytes Op.bytesLess
    by_cases h1 : a < b
    · simp [h1]
    · by_cases h2 : b < a
      · have : a ≠ b := fun e => by subst e; exact absurd h2 (UInt8.lt_irrefl a)
        simp [h1, h2, this]
      · have : a = b := UInt8.le_antisymm (UInt8.not_lt.1 h2) (UInt8.not_lt.1 h1)
        subst this
        simp [h1, compareBytes_less xs ys]

theorem R01_Compare_res (v w : Val) : (m_R01_Compare [.i v.k, .i v.n, .s (bs v.s), .i w.k, .i w.n, .s (bs w.s)]).res = some (0, [.i (cmpV v w)]) := by
  simp only [m_R01_Compare, cmpV, Cmp.thn, Cmp.cmpI, res_test, res_stop, bs_toList, compareBytes_less]
  by_cases h1 : v.k = w.k
  · by_cases h2 : v.n = w.n
    · by_cases h3 : Op.bytesLess v.s w.s = true
      · simp [h1, h2, h3]
      · by_cases h4 : v.s = w.s
        · rw [h4] at h3 ⊢
          simp [h1, h2, h3]
        · simp [h1, h2, h3, h4]
    · by_cases h3 : v.n < w.n
      · simp [h1, h2, h3]
      · have h4 : w.n < v.n := by omega
        simp [h1, h2, h3, h4]
  · by_cases h3 : v.k < w.k
    · simp [h1, h3]
    · have h4 : w.k < v.k := by omega
      simp [h1, h3, h4]

theorem value_Compare_res (v w : Val) : (m_value_Compare [.i v.k, .i v.n, .s (bs v.s), .i w.k, .i w.n, .s (bs w.s)]).res = some (0, [.i (cmpV v w)]) := by
  have hl : ∀ x y z : Int, lres rd_value_Compare_95_3 [.i 0, .l [[pI x], [pI y], [pI z]], .i 3, .i 0] = if Cmp.thn x (Cmp.thn y z) = 0 then some (1, [.i 0]) else some (0, [.i (Cmp.thn x (Cmp.thn y z))]) := by
    intro x y z
    have s1 : ∀ i : Int, i = 0 ∨ i = 1 ∨ i = 2 → (rd_value_Compare_95_3 [.i 0, .l [[pI x], [pI y], [pI z]], .i 3, .i i]).val =
        if cI (el [[pI x], [pI y], [pI z]] i) 0 = 0 then some (.next [.i 0, .l [[pI x], [pI y], [pI z]], .i 3, .i (i + 1)]) else some (.stop 0 [.i (cI (el [[pI x], [pI y], [pI z]] i) 0)]) := by
      intro i hi
      have h1 : i < 3 := by omega
      have h2 : inR i (ln [[pI x], [pI y], [pI z]]) = true := by rw [inR_iff]; simp [ln]; omega
      have h3 : w64 (i + 1) = i + 1 := w64_eq (by omega) (by omega)
      simp only [rd_value_Compare_95_3, rt_test, rt_stop, rt_next, h1, h2, h3, decide_true, if_true]
      by_cases h : cI (el [[pI x], [pI y], [pI z]] i) 0 = 0 <;> simp [h]
    have s3 : (rd_value_Compare_95_3 [.i 0, .l [[pI x], [pI y], [pI z]], .i 3, .i 3]).val = some (.stop 1 [.i 0]) := by simp [rd_value_Compare_95_3]
    have e0 : cI (el [[pI x], [pI y], [pI z]] 0) 0 = x := rfl
    have e1 : cI (el [[pI x], [pI y], [pI z]] 1) 0 = y := rfl
    have e2 : cI (el [[pI x], [pI y], [pI z]] 2) 0 = z := rfl
    have t0 := s1 0 (by omega)
    have t1 := s1 1 (by omega)
    have t2 := s1 2 (by omega)
    rw [e0] at t0; rw [e1] at t1; rw [e2] at t2
    unfold Cmp.thn
    by_cases hx : x = 0
    · rw [if_pos hx] at t0
      rw [lres_next t0]
      by_cases hy : y = 0
      · rw [if_pos hy] at t1
        rw [show (0 : Int) + 1 = 1 from rfl, lres_next t1]
        by_cases hz : z = 0
        · rw [if_pos hz] at t2
          rw [show (1 : Int) + 1 = 2 from rfl, lres_next t2, show (2 : Int) + 1 = 3 from rfl, lres_stop s3]
          simp [hx, hy, hz]
        · rw [if_neg hz] at t2
          rw [show (1 : Int) + 1 = 2 from rfl, lres_stop t2]
          simp [hx, hy, hz]
      · rw [if_neg hy] at t1
        rw [show (0 : Int) + 1 = 1 from rfl, lres_stop t1]
        simp [hx, hy]
    · rw [if_neg hx] at t0
      rw [lres_stop t0]
      simp [hx]
  simp only [m_value_Compare, cmp_Compare_int_res, hl, res_test, ok_some', out_some, uI_0, bs_data, beq_self_eq_true, if_true, cmpV]
  split <;> rename_i h <;> simp [h]

/-! rows -/

theorem row_May_res (r : List Val) (hr : okR r) : (m_row_May [.l (re r)]).res = some (0, [.b (mayR r)]) := by
  have h0 := hr.1
  have hl := loop_all r (rd := rd_row_May_119_2) (fun i => [.l (re r), .i r.length, .i (i : Nat)]) mayV 0 1 (fun i => [.i (i : Nat)]) [] (by simp [rd_row_May_119_2]) (by
    intro i h
    have := value_May_res r[i]
    by_cases hm : mayV r[i] = true <;> simp [rd_row_May_119_2, re, el_map _ _ h, h, w64_succ (i := i) (by omega), Val.e, this, hm])
  simp only [m_row_May, mayR, re, ln_map, res_test, res_stop] at *
  by_cases h40 : r.length ≤ 40
  · have h40' : (r.length : Int) ≤ 40 := by omega
    rcases hl with ⟨h1, h2⟩ | ⟨h1, i, h, _, _, h2⟩
    · simp only [Int.natCast_zero] at h2
      simp [h40, h40', h1, h2]
    · simp only [Int.natCast_zero] at h2
      have : (0 : Int) ≤ (i : Int) := by omega
      simp [h40, h40', h1, h2, this]
  · have h40' : ¬ (r.length : Int) ≤ 40 := by omega
    simp [h40, h40']

theorem R02_May_res (r : List Val) (hr : okR r) : (m_R02_May [.l (re r)]).res = some (0, [.b (r.all mayV)]) := by
  have h0 := hr.1
  have hl := loop_all' r (rd := rd_R02_May_88_2) (fun i => [.l (re r), .i (i : Nat)]) mayV 0 1 [.b false] [] (by simp [rd_R02_May_88_2, re]) (by
    intro i h
    have := R01_May_res r[i]
    by_cases hm : mayV r[i] = true <;> simp [rd_R02_May_88_2, re, el_map _ _ h, h, w64_succ (i := i) (by omega), Val.e, this, hm])
  simp only [Int.natCast_zero] at hl
  by_cases h1 : r.all mayV = true
  · simp [m_R02_May, hl, h1]
  · have h1' : r.all mayV = false := by simpa using h1
    simp [m_R02_May, hl, h1']

theorem R04_May_res (r : List Val) (hr : okR r) : (m_R04_May [.l (re r)]).res = some (0, [.b (mayR r)]) := by
  have := R02_May_res r hr
  by_cases h40 : r.length ≤ 40
  · have h40' : (r.length : Int) ≤ 40 := by omega
    simp only [re] at this ⊢
    simp [m_R04_May, mayR, this, h40, h40']
  · have h40' : ¬ (r.length : Int) ≤ 40 := by omega
    simp [m_R04_May, mayR, re, h40, h40']

end Go.Proofs.Ytfjjionebffekaa

set_option linter.unusedVariables false
set_option linter.unusedSimpArgs false
namespace Go.Proofs.Ytfjjionebffekaa
open Go Go.Pu

/-- how two lists compare, by the first place where they do not meet -/
theorem cmpR_at : ∀ (a b : List Val) (i : Nat) (hi : i ≤ a.length) (hj : i ≤ b.length), (∀ j (h : j < i), a[j] = b[j]) →
    cmpR a b = cmpR (a.drop i) (b.drop i)
  | a, b, 0, _, _, _ => by simp
  | [], b, i + 1, h, _, _ => by simp at h
  | _ :: _, [], i + 1, _, h, _ => by simp at h
  | x :: a, y :: b, i + 1, h1, h2, h => by
    have h0 : x = y := h 0 (by omega)
    subst h0
    have := cmpR_at a b i (by simpa using h1) (by simpa using h2) fun j hj => by simpa using h (j + 1) (by omega)
    simp only [cmpR, Cmp.lstC, cV.self, Cmp.thn] at this ⊢
    simpa using this

theorem cmpR_stop {a b : List Val} {i : Nat} (hi : i < a.length) (hj : i < b.length) (h : ∀ j (h : j < i), a[j] = b[j]) (hne : cmpV a[i] b[i] ≠ 0) : cmpR a b = cmpV a[i] b[i] := by
  rw [cmpR_at a b i (by omega) (by omega) h, List.drop_eq_getElem_cons hi, List.drop_eq_getElem_cons hj]
  simp only [cmpR, Cmp.lstC, Cmp.thn]
  rw [if_pos (by simpa using hne)]

theorem cmpR_end {a b : List Val} (h : ∀ j (h1 : j < a.length) (h2 : j < b.length), a[j] = b[j]) : cmpR a b = if a.length < b.length then -1 else if b.length < a.length then 1 else 0 := by
  by_cases hl : a.length ≤ b.length
  · rw [cmpR_at a b a.length (Nat.le_refl _) hl fun j hj => h j hj (by omega), List.drop_length]
    by_cases he : a.length < b.length
    · rw [if_pos he, List.drop_eq_getElem_cons he]; rfl
    · have : b.drop a.length = [] := List.drop_eq_nil_of_le (by omega)
      rw [if_neg he, if_neg (by omega), this]; rfl
  · rw [cmpR_at a b b.length (by omega) (Nat.le_refl _) fun j hj => h j (by omega) hj, List.drop_length, if_neg (by omega), if_pos (by omega), List.drop_eq_getElem_cons (by omega)]; rfl

theorem R02_Compare_res (a b : List Val) (ha : a.length ≤ 4398046511104) : (m_R02_Compare [.l (re a), .l (re b)]).res = some (0, [.i (cmpR a b)]) := by
  have hl := loop_ix (min a.length b.length) (rd := rd_R02_Compare_48_2) (fun i => [.l (re a), .l (re b), .i (i : Nat)]) (fun i => cmpV (a.getD i default) (b.getD i default) == 0) 0 1
    (fun i => [.i (cmpV (a.getD i default) (b.getD i default))]) [.l (re a), .l (re b)] (by
      by_cases h : a.length ≤ b.length
      · simp [rd_R02_Compare_48_2, Nat.min_eq_left h]
      · have : ¬ ((b.length : Int) < a.length ∧ False) := by simp
        simp [rd_R02_Compare_48_2, Nat.min_eq_right (Nat.le_of_not_le h)]) (by
    intro i h _
    have h1 : i < a.length := by omega
    have h2 : i < b.length := by omega
    have := R01_Compare_res a[i] b[i]
    by_cases hm : cmpV a[i] b[i] = 0 <;> simp [rd_R02_Compare_48_2, el_re _ h1, el_re _ h2, h1, h2, w64_succ (i := i) (by omega), Val.e, this, hm, List.getD])
  simp only [Int.natCast_zero] at hl
  rcases hl with ⟨h1, h2⟩ | ⟨i, h1, h2, h3, h4⟩
  · have he : ∀ j (h1 : j < a.length) (h2 : j < b.length), a[j] = b[j] := fun j j1 j2 => by
      have := h1 j (by omega)
      simp only [List.getD, List.getElem?_eq_getElem j1, List.getElem?_eq_getElem j2, Option.getD_some, beq_iff_eq] at this
      exact (cV.zero _ _).1 this
    rw [cmpR_end he]
    by_cases c1 : a.length < b.length
    · simp [m_R02_Compare, h2, c1]
    · by_cases c2 : b.length < a.length <;> simp [m_R02_Compare, h2, c1, c2]
  · have i1 : i < a.length := by omega
    have i2 : i < b.length := by omega
    have he : ∀ j (h : j < i), a[j] = b[j] := fun j hj => by
      have := h3 j hj
      have j1 : j < a.length := by omega
      have j2 : j < b.length := by omega
      simp only [List.getD, List.getElem?_eq_getElem j1, List.getElem?_eq_getElem j2, Option.getD_some, beq_iff_eq] at this
      exact (cV.zero _ _).1 this
    simp only [List.getD, List.getElem?_eq_getElem i1, List.getElem?_eq_getElem i2, Option.getD_some, beq_eq_false_iff_ne, ne_eq] at h2 h4
    rw [cmpR_stop i1 i2 he h2]
    simp [m_R02_Compare, h4]

theorem key_Compare_res (a b : List Val) (ha : a.length ≤ 4398046511104) : (m_key_Compare [.l (re a), .l (re b)]).res = some (0, [.i (cmpR a b)]) := by
  have hl := loop_ix a.length (rd := rd_key_Compare_118_2) (fun i => [.l (re a), .l (re b), .l (re a), .i a.length, .i (i : Nat)]) (fun i => decide (i < b.length) && cmpV (a.getD i default) (b.getD i default) == 0) 0 1
    (fun i => [.i (if i < b.length then cmpV (a.getD i default) (b.getD i default) else 1)]) [.l (re a), .l (re b)] (by
      simp [rd_key_Compare_118_2]) (by
    intro i h1 _
    by_cases h2 : i < b.length
    · have := value_Compare_res a[i] b[i]
      have h3 : ¬ (b.length : Int) ≤ (i : Int) := by omega
      by_cases hm : cmpV a[i] b[i] = 0 <;> simp [rd_key_Compare_118_2, el_re _ h1, el_re _ h2, h1, h2, h3, w64_succ (i := i) (by omega), Val.e, this, hm, List.getD]
    · have h3 : (b.length : Int) ≤ (i : Int) := by omega
      simp [rd_key_Compare_118_2, h1, h2, h3])
  simp only [Int.natCast_zero] at hl
  rcases hl with ⟨h1, h2⟩ | ⟨i, i1, h2, h3, h4⟩
  · have hle : a.length ≤ b.length := by
      rcases Nat.lt_or_ge b.length a.length with h | h
      · have := h1 b.length h; simp at this
      · exact h
    have he : ∀ j (h1 : j < a.length) (h2 : j < b.length), a[j] = b[j] := fun j j1 j2 => by
      have := h1 j (by omega)
      simp only [List.getD, List.getElem?_eq_getElem j1, List.getElem?_eq_getElem j2, Option.getD_some, Bool.and_eq_true, beq_iff_eq] at this
      exact (cV.zero _ _).1 this.2
    rw [cmpR_end he]
    by_cases c1 : a.length < b.length
    · simp [m_key_Compare, h2, c1]
    · have c2 : ¬ b.length < a.length := by omega
      simp [m_key_Compare, h2, c1, c2]
  · have he : ∀ j (h : j < i) (j2 : j < b.length), a[j] = b[j] := fun j hj j2 => by
      have := h3 j hj
      have j1 : j < a.length := by omega
      simp only [List.getD, List.getElem?_eq_getElem j1, List.getElem?_eq_getElem j2, Option.getD_some, Bool.and_eq_true, beq_iff_eq] at this
      exact (cV.zero _ _).1 this.2
    have hm : (m_key_Compare [.l (re a), .l (re b)]).res = some (0, [.i (if i < b.length then cmpV (a.getD i default) (b.getD i default) else 1)]) := by
      simp [m_key_Compare, h4]
    rw [hm]
    by_cases i2 : i < b.length
    · rw [if_pos i2]
      simp only [List.getD, List.getElem?_eq_getElem i1, List.getElem?_eq_getElem i2, Option.getD_some, i2, decide_true, Bool.true_and, beq_eq_false_iff_ne, ne_eq] at h2 ⊢
      rw [cmpR_stop i1 i2 (fun j hj => he j hj (by omega)) h2]
    · rw [if_neg i2]
      have hb : b.length = i := by
        rcases Nat.lt_or_ge b.length i with h | h
        · have := h3 b.length h; simp at this
        · omega
      have : cmpR a b = 1 := by
        have hbn : b.drop i = [] := List.drop_eq_nil_of_le (by omega)
        rw [cmpR_at a b i (by omega) (by omega) fun j hj => he j hj (by omega), List.drop_eq_getElem_cons i1, hbn]; rfl
      rw [this]

theorem row_Compare_res (a b : List Val) (ha : a.length ≤ 4398046511104) : (m_row_Compare [.l (re a), .l (re b)]).res = some (0, [.i (cmpR a b)]) := by
  simp [m_row_Compare, key_Compare_res a b ha]

end Go.Proofs.Ytfjjionebffekaa

set_option linter.unusedVariables false
set_option linter.unusedSimpArgs false
namespace Go.Proofs.Ytfjjionebffekaa
open Go Go.Pu

def hd (r : List Val) : Val := match r with | v :: _ => v | [] => default
def Rec.key (c : Rec) : Val := hd c.row
def Rec.right (c : Rec) : Bool := mayR c.row && decide (0 < c.row.length) && c.key.k != 0 && decide (0 ≤ c.tid)

theorem hd_re {r : List Val} (h : 0 < r.length) : (re r)[0]?.getD [] = (hd r).e := by
  cases r with
  | nil => simp at h
  | cons v r => rfl

theorem rel_right_res (c : Rec) (hc : c.ok) : (m_rel_right [.l (re c.row), .i c.tid]).res = some (0, [.b c.right]) := by
  have h := row_May_res c.row hc.1
  by_cases hm : mayR c.row = true
  · by_cases hl : 0 < c.row.length
    · have hg := hd_re hl
      by_cases hk : (hd c.row).k = 0
      · simp [m_rel_right, h, hm, hl, hg, Rec.right, Rec.key, Val.e, hk]
      · by_cases ht : 0 ≤ c.tid <;> simp [m_rel_right, h, hm, hl, hg, Rec.right, Rec.key, Val.e, ht, hk]
    · simp [m_rel_right, h, hm, hl, Rec.right]
  · have hm' : mayR c.row = false := by simpa using hm
    simp [m_rel_right, h, hm', Rec.right]

theorem R16_Right_res (c : Rec) (hc : c.ok) : (m_R16_Right [.l (re c.row), .i c.tid]).res = some (0, [.b c.right]) := by
  have h := R04_May_res c.row hc.1
  by_cases hl : 0 < c.row.length
  · have hg := hd_re hl
    have hl0 : ¬ c.row = [] := fun e => by rw [e] at hl; simp at hl
    have hl1 : ¬ (c.row.length : Int) = 0 := by omega
    by_cases ht : 0 ≤ c.tid
    · have ht' : ¬ c.tid < 0 := by omega
      by_cases hm : mayR c.row = true
      · simp [m_R16_Right, h, hm, hl, hl1, hg, Rec.right, Rec.key, Val.e, ht, ht', hl0]
      · have hm' : mayR c.row = false := by simpa using hm
        simp [m_R16_Right, h, hm', hl, hl1, hg, Rec.right, ht, ht', hl0]
    · have ht' : c.tid < 0 := by omega
      simp [m_R16_Right, Rec.right, ht, ht', hl1]
  · have h0 : c.row = [] := List.eq_nil_of_length_eq_zero (by omega)
    simp [m_R16_Right, Rec.right, h0, re]

/-! may a table be? -/

def pMay (l : List Rec) (i : Nat) : Bool := (l.getD i default).right && (i == 0 || decide (cmpV (l.getD (i - 1) default).key (l.getD i default).key < 0))
def mayL (l : List Rec) : Bool := (List.range l.length).all (pMay l)

theorem mayL_iff {l : List Rec} : mayL l = true ↔ ∀ i, i < l.length → pMay l i = true := by
  simp [mayL, List.all_eq_true]

theorem mayL_false {l : List Rec} {i : Nat} (h : i < l.length) (hp : pMay l i = false) : mayL l = false := by
  cases e : mayL l with
  | false => rfl
  | true => rw [mayL_iff.1 e i h] at hp; cases hp

theorem right_len {c : Rec} (h : c.right = true) : 0 < c.row.length := by
  simp only [Rec.right, Bool.and_eq_true, decide_eq_true_eq] at h
  exact h.1.1.2

def okL (l : List Rec) : Prop := l.length ≤ 4398046511104 ∧ ∀ c ∈ l, c.ok

theorem okL_at {l : List Rec} (h : okL l) {i : Nat} (hi : i < l.length) : (l[i]).ok := h.2 _ (List.getElem_mem hi)

theorem w64_pred {i : Nat} (h : 0 < i) (h2 : i < 4611686018427387904) : w64 ((i : Int) - 1) = ((i - 1 : Nat) : Int) := by
  rw [w64_eq (by omega) (by omega)]; omega

@[simp] theorem el_recs {l : List Rec} {i : Nat} (h : i < l.length) : el (l.map Rec.e) i = Rec.e l[i] := el_map _ _ h

theorem pMay_right {l : List Rec} {i : Nat} (hi : i < l.length) (h : pMay l i = true) : (l[i]).right = true := by
  simp only [pMay, List.getD, List.getElem?_eq_getElem hi, Option.getD_some, Bool.and_eq_true] at h
  exact h.1

theorem pMay_at {l : List Rec} {i : Nat} (hi : i < l.length) : pMay l i = ((l[i]).right && (i == 0 || decide (cmpV (l[i - 1]'(by omega)).key (l[i]).key < 0))) := by
  have h1 : i - 1 < l.length := by omega
  simp only [pMay, List.getD, List.getElem?_eq_getElem hi, List.getElem?_eq_getElem h1, Option.getD_some]

theorem rel_May_res (s : List UInt8) (l : List Rec) (hl : okL l) : (m_rel_May [.s (bs s), .l (l.map Rec.e)]).res = some (0, [.b (mayL l)]) := by
  have h0 := hl.1
  have h := loop_ix l.length (rd := rd_rel_May_40_2) (fun i => [.l (l.map Rec.e), .i l.length, .i (i : Nat), .s (bs s), .l (l.map Rec.e)]) (pMay l) 0 1
    (fun i => [.b false]) [] (by simp [rd_rel_May_40_2]) (by
    intro i hi hp
    have hr := rel_right_res l[i] (okL_at hl hi)
    rw [pMay_at hi]
    have hw := w64_succ (i := i) (by omega)
    by_cases hq : (l[i]).right = true
    · by_cases hz : i = 0
      · have hn : ¬ 0 < i := by omega
        rw [show (i == 0) = true by simp [hz], Bool.true_or, Bool.and_true]
        simp [rd_rel_May_40_2, hi, Rec.e, hr, hq, hw, hn]
      · have h1 : i - 1 < l.length := by omega
        have hp1 := pMay_right h1 (hp (i - 1) (by omega))
        have g1 := hd_re (right_len hp1)
        have g2 := hd_re (right_len hq)
        have hw1 := w64_pred (i := i) (by omega) (by omega)
        have hc := value_Compare_res (hd l[i - 1].row) (hd l[i].row)
        have hpos : 0 < i := by omega
        have r1 := right_len hp1
        have r2 := right_len hq
        by_cases hm : cmpV (hd l[i - 1].row) (hd l[i].row) < 0
        · have hm' : ¬ 0 ≤ cmpV (hd l[i - 1].row) (hd l[i].row) := by omega
          simp [rd_rel_May_40_2, hi, h1, Rec.e, hr, hq, hw, hw1, hz, hpos, g1, g2, Val.e, hc, hm, hm', r1, r2, Rec.key]
        · have hm' : 0 ≤ cmpV (hd l[i - 1].row) (hd l[i].row) := by omega
          simp [rd_rel_May_40_2, hi, h1, Rec.e, hr, hq, hw, hw1, hz, hpos, g1, g2, Val.e, hc, hm, hm', r1, r2, Rec.key]
    · have hq' : (l[i]).right = false := by simpa using hq
      simp [rd_rel_May_40_2, hi, Rec.e, hr, hq'])
  simp only [Int.natCast_zero] at h
  rcases h with ⟨h1, h2⟩ | ⟨i, hi, h1, _, h2⟩
  · simp [m_rel_May, h2, mayL_iff.2 h1]
  · simp [m_rel_May, h2, mayL_false hi h1]

theorem R16_May_res (s : List UInt8) (l : List Rec) (hl : okL l) : (m_R16_May [.s (bs s), .l (l.map Rec.e)]).res = some (0, [.b (mayL l)]) := by
  have h0 := hl.1
  have h := loop_ix l.length (rd := rd_R16_May_29_2) (fun i => [.i (i : Nat), .s (bs s), .l (l.map Rec.e)]) (pMay l) 0 1
    (fun i => [.b false]) [] (by simp [rd_R16_May_29_2]) (by
    intro i hi hp
    have hr := R16_Right_res l[i] (okL_at hl hi)
    rw [pMay_at hi]
    have hw := w64_succ (i := i) (by omega)
    by_cases hq : (l[i]).right = true
    · by_cases hz : i = 0
      · have hn : ¬ 0 < i := by omega
        rw [show (i == 0) = true by simp [hz], Bool.true_or, Bool.and_true]
        simp [rd_R16_May_29_2, hi, Rec.e, hr, hq, hw, hn]
      · have h1 : i - 1 < l.length := by omega
        have hp1 := pMay_right h1 (hp (i - 1) (by omega))
        have g1 := hd_re (right_len hp1)
        have g2 := hd_re (right_len hq)
        have hw1 := w64_pred (i := i) (by omega) (by omega)
        have hc := R01_Compare_res (hd l[i - 1].row) (hd l[i].row)
        have hpos : 0 < i := by omega
        have r1 := right_len hp1
        have r2 := right_len hq
        by_cases hm : cmpV (hd l[i - 1].row) (hd l[i].row) < 0
        · have hm' : ¬ 0 ≤ cmpV (hd l[i - 1].row) (hd l[i].row) := by omega
          simp [rd_R16_May_29_2, hi, h1, Rec.e, hr, hq, hw, hw1, hz, hpos, g1, g2, Val.e, hc, hm, hm', r1, r2, Rec.key]
        · have hm' : 0 ≤ cmpV (hd l[i - 1].row) (hd l[i].row) := by omega
          simp [rd_R16_May_29_2, hi, h1, Rec.e, hr, hq, hw, hw1, hz, hpos, g1, g2, Val.e, hc, hm, hm', r1, r2, Rec.key]
    · have hq' : (l[i]).right = false := by simpa using hq
      simp [rd_R16_May_29_2, hi, Rec.e, hr, hq'])
  simp only [Int.natCast_zero] at h
  rcases h with ⟨h1, h2⟩ | ⟨i, hi, h1, _, h2⟩
  · simp [m_R16_May, h2, mayL_iff.2 h1]
  · simp [m_R16_May, h2, mayL_false hi h1]

/-! a table that may be rises -/

theorem mayL_right {l : List Rec} (h : mayL l = true) {i : Nat} (hi : i < l.length) : (l[i]).right = true := pMay_right hi (mayL_iff.1 h i hi)

theorem mayL_lt {l : List Rec} (h : mayL l = true) : ∀ {i j : Nat} (hj : j < l.length) (hij : i < j), cmpV (l[i]).key (l[j]).key < 0 := by
  have step : ∀ i (hi : i + 1 < l.length), cmpV (l[i]).key (l[i + 1]).key < 0 := fun i hi => by
    have := mayL_iff.1 h (i + 1) hi
    rw [pMay_at hi] at this
    simp only [Bool.and_eq_true, Bool.or_eq_true, decide_eq_true_eq, Nat.add_sub_cancel] at this
    rcases this.2 with h1 | h1
    · simp at h1
    · exact h1
  intro i j hj hij
  obtain ⟨d, rfl⟩ : ∃ d, j = i + 1 + d := ⟨j - (i + 1), by omega⟩
  induction d with
  | zero => exact step i hj
  | succ d ih => exact cV.lt_trans (ih (by omega) (by omega)) (step (i + 1 + d) hj)

theorem mayL_row {l : List Rec} (h : mayL l = true) {i : Nat} (hi : i < l.length) : 0 < (l[i]).row.length := right_len (mayL_right h hi)

end Go.Proofs.Ytfjjionebffekaa
