/- Texts of this seat, one behind the other. -/
import Derived.Test.YtkaljlpbmbfpgaaGreatDoorKX
import Derived.Test.YtkaljlpbmbfpgaaGreatDoorTC
import Derived.Test.YtkaljlpbmbfpgaaGreatDoorGX
import Derived.Test.YtkaljlpbmbfpgaaGreatDoorSE
import Derived.SizedLaws
import Derived.Test.YtkaljlpbmbfpgaaGreatDoorTF
set_option linter.unusedVariables false
set_option linter.unusedSimpArgs false
namespace Go.Proofs.YtkaljlpbmbfpgaaGreatDoor
open Go Go.Pu

structure Val where
 k : Int
 n : Int
 s : List UInt8
 deriving DecidableEq

instance : Inhabited Val := ⟨⟨0, 0, []⟩⟩

def Val.e (v : Val) : List PV := [pI v.k, pI v.n, pS (bs v.s)]
def re (r : List Val) : List (List PV) := r.map Val.e

@[simp] theorem ln_re (r : List Val) : ln (re r) = r.length := ln_map _ _
theorem el_re (r : List Val) {i : Nat} (h : i < r.length) : el (re r) i = Val.e r[i] := el_map _ _ h

/-! the order of values, and of rows -/

def cmpB (a b : UInt8) : Int := Cmp.cmpI a.toNat b.toNat

theorem bytes_lst : ∀ a b : List UInt8, Lib.compareBytes a b = Cmp.lstC cmpB a b
 | [], [] => rfl
 | [], _ :: _ => rfl
 | _ :: _, [] => rfl
 | a :: xs, b :: ys => by
  simp only [Lib.compareBytes, Cmp.lstC, bytes_lst xs ys]
  have h : ∀ x y : UInt8, x < y ↔ (x.toNat : Int) < y.toNat := fun x y => by rw [UInt8.lt_iff_toNat_lt]; omega
  simp only [cmpB, Cmp.cmpI, Cmp.thn, h]
  (repeat' split) <;> first | rfl | (exfalso; omega) | simp_all

theorem cmpBytes : Cmp Lib.compareBytes := by
 have h1 : Cmp cmpB := Cmp.int.pull (fun x : UInt8 => (x.toNat : Int)) fun a b h => UInt8.toNat_inj.1 (by exact_mod_cast h)
 have h2 := h1.list
 have : Lib.compareBytes = Cmp.lstC cmpB := by funext a b; exact bytes_lst a b
 rw [this]; exact h2

def cmpV (a b : Val) : Int := Cmp.thn (Cmp.cmpI a.k b.k) (Cmp.thn (Cmp.cmpI a.n b.n) (Lib.compareBytes a.s b.s))

theorem cV : Cmp cmpV :=
 (Cmp.int.both (Cmp.int.both cmpBytes)).pull (fun v : Val => (v.k, v.n, v.s)) fun a b h => by
  obtain ⟨_, _, _⟩ := a; obtain ⟨_, _, _⟩ := b; simp only [Prod.mk.injEq] at h; obtain ⟨rfl, rfl, rfl⟩ := h; rfl

def cmpR : List Val → List Val → Int := Cmp.lstC cmpV
theorem cR : Cmp cmpR := cV.list

/-- may a value be? a row? -/
def mayV (v : Val) : Bool :=
 if v.k = 0 then v.n == 0 && v.s == [] else if v.k = 1 then (v.n == 0 || v.n == 1) && v.s == [] else if v.k = 2 then v.s == [] else v.k == 3 && v.n == 0 && decide (v.s.length ≤ 1000)
def mayR (r : List Val) : Bool := decide (r.length ≤ 40) && r.all mayV

/-! what a law is handed -/

def big : Nat := 140737488355328

theorem lst_map {α : Type} {f : α → List PV} {p : α → Prop} : ∀ {es : List (List PV)}, (∀ e ∈ es, ∃ a, e = f a ∧ p a) → ∃ l : List α, es = l.map f ∧ ∀ a ∈ l, p a
 | [], _ => ⟨[], rfl, fun _ h => by cases h⟩
 | e :: es, h => by
  obtain ⟨a, rfl, ha⟩ := h e (by simp)
  obtain ⟨l, rfl, hl⟩ := lst_map (es := es) fun e he => h e (by simp [he])
  exact ⟨a :: l, rfl, List.forall_mem_cons.2 ⟨ha, hl⟩⟩

theorem gd_int {P : Program} {x : PV} (h : Gd P (.int .i64) x) : ∃ n, x = pI n ∧ -9223372036854775808 ≤ n ∧ n < 9223372036854775808 := by
 cases h with
 | int _ n hn =>
  refine ⟨n, rfl, ?_⟩
  simp only [Lit.wf, IntKind.min, IntKind.max, IntKind.bits, IntKind.signed, Bool.and_eq_true, decide_eq_true_eq] at hn
  simp at hn
  omega

theorem gd_str {P : Program} {x : PV} (h : Gd P .str x) : ∃ s : List UInt8, x = pS (bs s) ∧ s.length ≤ big := by
 cases h with
 | str s hs => exact ⟨s.data.toList, rfl, Nat.le_trans (by rw [Array.length_toList]; exact hs) (by decide)⟩

theorem gd_lst {P : Program} {t : TypeId} {x : PV} (h : Gd P (.sl t) x) : ∃ es, x = .lst t es ∧ es.length * P.bytesOf t ≤ big ∧ ∀ e ∈ es, Gds P (kds P t) e := by
 cases h with
 | sl t es h1 h2 h3 h4 =>
  refine ⟨es, rfl, Nat.le_trans h1 (by decide), fun e he => ?_⟩
  obtain ⟨i, hi, rfl⟩ := List.mem_iff_getElem.1 he
  have e1 : es.getD i [] = es[i] := by simp [List.getD, hi]
  have g3 := h3 i hi
  have g4 := fun j => h4 i j hi
  rw [e1] at g3
  simp only [e1] at g4
  exact ⟨g3, g4⟩

def i64 (n : Int) : Prop := -9223372036854775808 ≤ n ∧ n < 9223372036854775808
def Val.ok (v : Val) : Prop := i64 v.k ∧ i64 v.n ∧ v.s.length ≤ big
def okR (r : List Val) : Prop := r.length ≤ 4398046511104 ∧ ∀ v ∈ r, v.ok
/-- cells, one by one -/
theorem gds_cells {P : Program} {ks : List Kd} {xs : List PV} (h : Gds P ks xs) : xs.length = ks.length ∧ ∀ j, j < ks.length → Gd P (ks.getD j .other) (xs.getD j .top) := ⟨h.len, h.gd⟩

theorem val_cells {a b c : PV} (h0 : Gd Tryz.prog (.int .i64) a) (h1 : Gd Tryz.prog (.int .i64) b) (h2 : Gd Tryz.prog .str c) : ∃ v : Val, a = pI v.k ∧ b = pI v.n ∧ c = pS (bs v.s) ∧ v.ok := by
 obtain ⟨k, rfl, k1⟩ := gd_int h0
 obtain ⟨n, rfl, n1⟩ := gd_int h1
 obtain ⟨s, rfl, s1⟩ := gd_str h2
 exact ⟨⟨k, n, s⟩, rfl, rfl, rfl, k1, n1, s1⟩

/-- a list of some cells, each of its kind -/
theorem gd_list {α : Type} {t : TypeId} {ks : List Kd} {b : Nat} {f : α → List PV} {p : α → Prop} (hk : kds Tryz.prog t = ks) (hb : Tryz.prog.bytesOf t = b) (hb1 : 32 ≤ b)
  (hc : ∀ e, Gds Tryz.prog ks e → ∃ a, e = f a ∧ p a) {x : PV} (h : Gd Tryz.prog (.sl t) x) : ∃ l : List α, x = .lst t (l.map f) ∧ l.length ≤ 4398046511104 ∧ ∀ a ∈ l, p a := by
 obtain ⟨es, rfl, h1, h2⟩ := gd_lst h
 rw [hk] at h2
 rw [hb] at h1
 obtain ⟨l, rfl, hl⟩ := lst_map fun e he => hc e (h2 e he)
 refine ⟨l, rfl, ?_, hl⟩
 rw [List.length_map] at h1
 have : l.length * 32 ≤ l.length * b := Nat.mul_le_mul_left _ hb1
 unfold big at h1
 omega

theorem gd_row {x : PV} (h : Gd Tryz.prog (.sl 39) x) : ∃ r : List Val, x = .lst 39 (re r) ∧ okR r := by
 obtain ⟨l, e, h1, h2⟩ := gd_list (f := Val.e) (p := Val.ok) (ks := [.int .i64, .int .i64, .str]) (b := 32) (by kernel_rfl) (by kernel_rfl) (by decide) (fun e he => by
  obtain ⟨hl, hg⟩ := gds_cells he
  match e, hl, hg with
  | [a, b, c], _, hg =>
   obtain ⟨v, rfl, rfl, rfl, hv⟩ := val_cells (hg 0 (by decide)) (hg 1 (by decide)) (hg 2 (by decide))
   exact ⟨v, rfl, hv⟩) h
 exact ⟨l, e, h1, h2⟩

end Go.Proofs.YtkaljlpbmbfpgaaGreatDoor

set_option linter.unusedVariables false
set_option linter.unusedSimpArgs false
namespace Go.Proofs.YtkaljlpbmbfpgaaGreatDoor
open Go Go.Pu

/-! records -/

structure Rec where
 row : List Val
 tid : Int
 deriving DecidableEq
structure Rel where
 name : List UInt8
 recs : List Rec
 deriving DecidableEq
structure Read where
 table : List UInt8
 key : Val
 tid : Int
 deriving DecidableEq
structure Rng where
 table : List UInt8
 lo : Val
 hi : Val
 found : List Read
 deriving DecidableEq
structure Cnt where
 row : List Val
 n : Int
 deriving DecidableEq
structure Look where
 view : List UInt8
 rows : List Cnt
 deriving DecidableEq
structure Src where
 name : List UInt8
 rows : List Cnt
 deriving DecidableEq
instance : Inhabited Rec := ⟨⟨[], 0⟩⟩
instance : Inhabited Rel := ⟨⟨[], []⟩⟩

def Rec.e (c : Rec) : List PV := [.lst 39 (re c.row), pI c.tid]
def Read.e (x : Read) : List PV := [pS (bs x.table), pI x.key.k, pI x.key.n, pS (bs x.key.s), pI x.tid]
def Cnt.e (c : Cnt) : List PV := [.lst 39 (re c.row), pI c.n]
def Look.e (x : Look) : List PV := [pS (bs x.view), .lst 49 (x.rows.map Cnt.e)]
def Src.e (x : Src) : List PV := [pS (bs x.name), .lst 49 (x.rows.map Cnt.e)]

def Rec.ok (c : Rec) : Prop := okR c.row ∧ i64 c.tid
def Rel.ok (r : Rel) : Prop := r.name.length ≤ big ∧ r.recs.length ≤ 4398046511104 ∧ ∀ c ∈ r.recs, c.ok
def Read.ok (x : Read) : Prop := x.table.length ≤ big ∧ x.key.ok ∧ i64 x.tid
def Rng.ok (x : Rng) : Prop := x.table.length ≤ big ∧ x.lo.ok ∧ x.hi.ok ∧ x.found.length ≤ 4398046511104 ∧ ∀ c ∈ x.found, c.ok
def Cnt.ok (c : Cnt) : Prop := okR c.row ∧ i64 c.n
def okB (b : List Cnt) : Prop := b.length ≤ 4398046511104 ∧ ∀ c ∈ b, c.ok
def Look.ok (x : Look) : Prop := x.view.length ≤ big ∧ okB x.rows
def Src.ok (x : Src) : Prop := x.name.length ≤ big ∧ okB x.rows

theorem gd_bag {x : PV} (h : Gd Tryz.prog (.sl 49) x) : ∃ l : List Cnt, x = .lst 49 (l.map Cnt.e) ∧ l.length ≤ 4398046511104 ∧ ∀ c ∈ l, c.ok :=
 gd_list (ks := [.sl 39, .int .i64]) (b := 32) (by kernel_rfl) (by kernel_rfl) (by decide) (fun e he => by
  obtain ⟨hl, hg⟩ := gds_cells he
  match e, hl, hg with
  | [a, b], _, hg =>
   obtain ⟨r, rfl, hr⟩ := gd_row (hg 0 (by decide))
   obtain ⟨n, rfl, hn⟩ := gd_int (hg 1 (by decide))
   exact ⟨⟨r, n⟩, rfl, hr, hn⟩) h

end Go.Proofs.YtkaljlpbmbfpgaaGreatDoor

set_option linter.unusedVariables false
set_option linter.unusedSimpArgs false
namespace Go.Proofs.YtkaljlpbmbfpgaaGreatDoor
open Go Go.Pu

/-- how often a row is there -/
def cnt : List Cnt → List Val → Int
 | [], _ => 0
 | c :: l, r => (if c.row = r then c.n else 0) + cnt l r

@[simp] theorem cnt_nil (r : List Val) : cnt [] r = 0 := rfl
theorem cnt_cons (c : Cnt) (l : List Cnt) (r : List Val) : cnt (c :: l) r = (if c.row = r then c.n else 0) + cnt l r := rfl
theorem cnt_app (a b : List Cnt) (r : List Val) : cnt (a ++ b) r = cnt a r + cnt b r := by
 induction a with
 | nil => simp
 | cons c a ih => rw [List.cons_append, cnt_cons, cnt_cons, ih]; omega
theorem cnt_perm {a b : List Cnt} (h : a.Perm b) (r : List Val) : cnt a r = cnt b r := by
 induction h with
 | nil => rfl
 | cons x _ ih => rw [cnt_cons, cnt_cons, ih]
 | swap x y l => rw [cnt_cons, cnt_cons, cnt_cons, cnt_cons]; omega
 | trans _ _ h1 h2 => rw [h1, h2]
theorem cnt_not {b : List Cnt} {r : List Val} (h : ∀ c ∈ b, c.row ≠ r) : cnt b r = 0 := by
 induction b with
 | nil => rfl
 | cons c b ih => rw [cnt_cons, if_neg (h c (List.mem_cons_self ..)), ih fun d hd => h d (List.mem_cons_of_mem _ hd)]; rfl

def rising (b : List Cnt) : Prop := b.Pairwise fun x y => cmpR x.row y.row < 0
def canon (b : List Cnt) : Prop := rising b ∧ ∀ c ∈ b, c.n ≠ 0

theorem lt_ne {a b : List Val} (h : cmpR a b < 0) : a ≠ b := fun e => by
 have := (cR.zero a b).2 e
 omega

theorem cnt_mem {b : List Cnt} (h : rising b) {c : Cnt} (hc : c ∈ b) : cnt b c.row = c.n := by
 induction b with
 | nil => cases hc
 | cons d b ih =>
  obtain ⟨h1, h2⟩ := List.pairwise_cons.1 h
  rw [cnt_cons]
  rcases List.mem_cons.1 hc with rfl | hc
  ·rw [if_pos rfl, cnt_not fun e he => (lt_ne (h1 e he)).symm]; omega
  ·rw [if_neg (lt_ne (h1 c hc)), ih h2 hc]; omega

theorem cnt_ne {b : List Cnt} {r : List Val} (h : cnt b r ≠ 0) : ∃ c ∈ b, c.row = r := by
 by_cases e : ∃ c ∈ b, c.row = r
 ·exact e
 ·exact absurd (cnt_not fun c hc he => e ⟨c, hc, he⟩) h

theorem cntE {c d : Cnt} (h1 : c.row = d.row) (h2 : c.n = d.n) : c = d := by
 obtain ⟨_, _⟩ := c; obtain ⟨_, _⟩ := d; simp only at h1 h2; subst h1; subst h2; rfl

theorem rising_ext : ∀ {a b : List Cnt}, rising a → rising b → (∀ c, c ∈ a ↔ c ∈ b) → a = b
 | [], [], _, _, _ => rfl
 | [], d :: b, _, _, h => by have := (h d).2 (List.mem_cons_self ..); cases this
 | c :: a, [], _, _, h => by have := (h c).1 (List.mem_cons_self ..); cases this
 | c :: a, d :: b, ha, hb, h => by
  obtain ⟨a1, a2⟩ := List.pairwise_cons.1 ha
  obtain ⟨b1, b2⟩ := List.pairwise_cons.1 hb
  have e : c = d := by
   rcases List.mem_cons.1 ((h c).1 (List.mem_cons_self ..)) with e | h1
   ·exact e
   ·rcases List.mem_cons.1 ((h d).2 (List.mem_cons_self ..)) with e | h2
    ·exact e.symm
    ·have x1 := b1 c h1
     have x2 := a1 d h2
     have := cR.anti c.row d.row
     omega
  subst e
  rw [rising_ext a2 b2 fun x => by
   constructor
   ·intro hx
    rcases List.mem_cons.1 ((h x).1 (List.mem_cons_of_mem _ hx)) with rfl | h1
    ·exact absurd rfl (lt_ne (a1 x hx))
    ·exact h1
   ·intro hx
    rcases List.mem_cons.1 ((h x).2 (List.mem_cons_of_mem _ hx)) with rfl | h1
    ·exact absurd rfl (lt_ne (b1 x hx))
    ·exact h1]

/-- bags that rise are the same if each row is there as often -/
theorem canon_ext {a b : List Cnt} (ha : canon a) (hb : canon b) (h : ∀ r, cnt a r = cnt b r) : a = b := by
 have key : ∀ {a b : List Cnt}, canon a → canon b → (∀ r, cnt a r = cnt b r) → ∀ c, c ∈ a → c ∈ b := by
  intro a b ha hb h c hc
  have h1 := cnt_mem ha.1 hc
  have h2 := ha.2 c hc
  obtain ⟨d, hd, e⟩ := cnt_ne (b := b) (r := c.row) (by rw [← h, h1]; exact h2)
  have h3 := cnt_mem hb.1 hd
  rw [e, ← h, h1] at h3
  rw [cntE e.symm h3]; exact hd
 exact rising_ext ha.1 hb.1 fun c => ⟨key ha hb h c, key hb ha (fun r => (h r).symm) c⟩

theorem canon_nil : canon [] := ⟨List.Pairwise.nil, fun _ h => by cases h⟩

/-! what stands together -/

def sumN (l : List Cnt) : Int := (l.map Cnt.n).sum
def absN : List Cnt → Nat
 | [] => 0
 | c :: l => c.n.natAbs + absN l
theorem absN_app (a b : List Cnt) : absN (a ++ b) = absN a + absN b := by
 induction a with
 | nil => simp [absN]
 | cons c a ih => rw [List.cons_append]; simp only [absN, ih]; omega
theorem absN_perm {a b : List Cnt} (h : a.Perm b) : absN a = absN b := by
 induction h with
 | nil => rfl
 | cons x _ ih => simp only [absN, ih]
 | swap x y l => simp only [absN]; omega
 | trans _ _ h1 h2 => rw [h1, h2]
theorem absN_le {b : List Cnt} {m : Nat} (h : ∀ c ∈ b, c.n.natAbs ≤ m) : absN b ≤ b.length * m := by
 induction b with
 | nil => simp [absN]
 | cons c b ih =>
  have h1 := ih fun d hd => h d (List.mem_cons_of_mem _ hd)
  have h2 := h c (List.mem_cons_self ..)
  rw [List.length_cons, Nat.add_mul, Nat.one_mul]
  simp only [absN]; omega
theorem absN_take (l : List Cnt) (i : Nat) : absN (l.take i) ≤ absN l := by
 have := absN_app (l.take i) (l.drop i)
 rw [List.take_append_drop] at this
 omega
theorem sum_abs (l : List Cnt) : -(absN l : Int) ≤ sumN l ∧ sumN l ≤ absN l := by
 induction l with
 | nil => simp [sumN, absN]
 | cons c l ih => unfold sumN at *; simp only [absN, List.map_cons, List.sum_cons]; omega

def one1 (r : List Val) (n : Int) : List Cnt := if n ≠ 0 then [⟨r, n⟩] else []
theorem cnt_one (r q : List Val) (n : Int) : cnt (one1 r n) q = if r = q then n else 0 := by
 unfold one1
 split
 ·simp [cnt]
 ·rename_i h
  have : n = 0 := by omega
  subst this
  simp
theorem one_mem {r : List Val} {n : Int} {c : Cnt} (h : c ∈ one1 r n) : c.row = r ∧ c.n = n ∧ n ≠ 0 := by
 unfold one1 at h
 split at h
 ·rename_i hn; rw [List.mem_singleton] at h; subst h; exact ⟨rfl, rfl, hn⟩
 ·cases h

/-- counts of rows that stand side by side, together (n: at least the length) -/
def grp : Nat → List Cnt → List Cnt
 | 0, _ => []
 | _ + 1, [] => []
 | n + 1, c :: l => one1 c.row (c.n + sumN (l.takeWhile fun d => decide (d.row = c.row))) ++ grp n (l.dropWhile fun d => decide (d.row = c.row))

theorem cnt_same {l : List Cnt} {q r : List Val} (h : ∀ c ∈ l, c.row = q) : cnt l r = if q = r then sumN l else 0 := by
 induction l with
 | nil => simp [sumN]
 | cons c l ih =>
  rw [cnt_cons, ih fun d hd => h d (List.mem_cons_of_mem _ hd), h c (List.mem_cons_self ..)]
  unfold sumN
  split <;> simp

theorem dropWhile_len {α : Type} (p : α → Bool) (l : List α) : (l.dropWhile p).length ≤ l.length := (List.dropWhile_sublist p).length_le

theorem takeWhile_mem {α : Type} {p : α → Bool} : ∀ {l : List α} {x : α}, x ∈ l.takeWhile p → p x = true
 | [], x, h => by cases h
 | y :: l, x, h => by
  rw [List.takeWhile_cons] at h
  split at h
  ·rename_i hp
   rcases List.mem_cons.1 h with rfl | h
   ·exact hp
   ·exact takeWhile_mem h
  ·cases h
theorem dropWhile_hd {α : Type} {p : α → Bool} : ∀ {l m : List α} {x : α}, l.dropWhile p = x :: m → p x = false
 | [], m, x, h => by cases h
 | y :: l, m, x, h => by
  rw [List.dropWhile_cons] at h
  split at h
  ·exact dropWhile_hd h
  ·rename_i hp
   injection h with h1 _
   subst h1
   simpa using hp

theorem grp_cnt : ∀ (n : Nat) (l : List Cnt) (r : List Val), l.length ≤ n → cnt (grp n l) r = cnt l r
 | 0, l, r, h => by
  have e : l = [] := List.eq_nil_of_length_eq_zero (by omega)
  subst e; rfl
 | n + 1, [], r, h => rfl
 | n + 1, c :: l, r, h => by
  simp only [List.length_cons] at h
  have h1 := grp_cnt n (l.dropWhile fun d => decide (d.row = c.row)) r (Nat.le_trans (dropWhile_len _ _) (by omega))
  have h2 := cnt_same (l := l.takeWhile fun d => decide (d.row = c.row)) (q := c.row) (r := r) fun d hd => by
   have := takeWhile_mem hd
   simpa using this
  have h3 := cnt_app (l.takeWhile fun d => decide (d.row = c.row)) (l.dropWhile fun d => decide (d.row = c.row)) r
  rw [List.takeWhile_append_dropWhile] at h3
  rw [grp, cnt_app, h1, cnt_one, cnt_cons, h3, h2]
  split <;> omega

theorem grp_row : ∀ (n : Nat) (l : List Cnt) (c : Cnt), c ∈ grp n l → (∃ d ∈ l, d.row = c.row) ∧ c.n ≠ 0
 | 0, l, c, h => by cases h
 | n + 1, [], c, h => by cases h
 | n + 1, d :: l, c, h => by
  rw [grp] at h
  rcases List.mem_append.1 h with h | h
  ·obtain ⟨h1, h2, h3⟩ := one_mem h
   exact ⟨⟨d, List.mem_cons_self .., h1.symm⟩, by rw [h2]; exact h3⟩
  ·obtain ⟨⟨e, h1, h2⟩, h3⟩ := grp_row n _ c h
   exact ⟨⟨e, List.mem_cons_of_mem _ ((List.dropWhile_sublist _).subset h1), h2⟩, h3⟩

theorem grp_rising : ∀ (n : Nat) (l : List Cnt), l.Pairwise (fun x y => cmpR x.row y.row ≤ 0) → rising (grp n l)
 | 0, l, _ => List.Pairwise.nil
 | n + 1, [], _ => List.Pairwise.nil
 | n + 1, c :: l, h => by
  obtain ⟨h1, h2⟩ := List.pairwise_cons.1 h
  have h3 : (l.dropWhile fun d => decide (d.row = c.row)).Pairwise (fun x y => cmpR x.row y.row ≤ 0) := h2.sublist (List.dropWhile_sublist _)
  have h4 : ∀ d ∈ l.dropWhile (fun d => decide (d.row = c.row)), cmpR c.row d.row < 0 := by
   intro d hd
   cases hw : l.dropWhile (fun d => decide (d.row = c.row)) with
   | nil => rw [hw] at hd; cases hd
   | cons e m =>
    have e1 : ¬ e.row = c.row := by
     have h9 := dropWhile_hd hw
     simpa using h9
    have e2 : cmpR c.row e.row ≤ 0 := h1 e ((List.dropWhile_sublist _).subset (by rw [hw]; exact List.mem_cons_self ..))
    have e3 : cmpR c.row e.row < 0 := by
     rcases Int.lt_or_eq_of_le e2 with h | h
     ·exact h
     ·exact absurd ((cR.zero _ _).1 h).symm e1
    rw [hw] at hd h3
    rcases List.mem_cons.1 hd with rfl | hd
    ·exact e3
    ·exact cR.lt_of_lt_of_le e3 ((List.pairwise_cons.1 h3).1 d hd)
  rw [grp]
  unfold rising
  rw [List.pairwise_append]
  refine ⟨?_, grp_rising n _ h3, ?_⟩
  ·unfold one1; split <;> simp
  ·intro a ha b hb
   obtain ⟨a1, _, _⟩ := one_mem ha
   obtain ⟨⟨e, e1, e2⟩, _⟩ := grp_row n _ b hb
   rw [a1, ← e2]
   exact h4 e e1

theorem grp_canon {l : List Cnt} (n : Nat) (h : l.Pairwise (fun x y => cmpR x.row y.row ≤ 0)) : canon (grp n l) := ⟨grp_rising n l h, fun c hc => (grp_row n l c hc).2⟩

/-! a row so many times more -/

def addC : List Cnt → List Val → Int → List Cnt
 | [], r, n => one1 r n
 | c :: b, r, n => if cmpR c.row r < 0 then c :: addC b r n else if cmpR c.row r = 0 then one1 r (n + c.n) ++ b else one1 r n ++ (c :: b)

theorem addC_cnt : ∀ (b : List Cnt) (r : List Val) (n : Int) (q : List Val), cnt (addC b r n) q = cnt b q + if r = q then n else 0
 | [], r, n, q => by simp [addC, cnt_one]
 | c :: b, r, n, q => by
  rw [addC]
  split
  ·rw [cnt_cons, addC_cnt b r n q, cnt_cons]; omega
  ·split
   ·rename_i h
    have e := (cR.zero _ _).1 h
    rw [cnt_app, cnt_one, cnt_cons, e]
    split <;> omega
   ·rw [cnt_app, cnt_one]; omega

theorem addC_row : ∀ {b : List Cnt} {r : List Val} {n : Int} {c : Cnt}, c ∈ addC b r n → c.row = r ∨ c ∈ b
 | [], r, n, c, h => .inl (one_mem h).1
 | d :: b, r, n, c, h => by
  rw [addC] at h
  split at h
  ·rcases List.mem_cons.1 h with rfl | h
   ·exact .inr (List.mem_cons_self ..)
   ·rcases addC_row h with h | h
    ·exact .inl h
    ·exact .inr (List.mem_cons_of_mem _ h)
  ·split at h
   ·rcases List.mem_append.1 h with h | h
    ·exact .inl (one_mem h).1
    ·exact .inr (List.mem_cons_of_mem _ h)
   ·rcases List.mem_append.1 h with h | h
    ·exact .inl (one_mem h).1
    ·exact .inr h

theorem one_canon (r : List Val) (n : Int) : canon (one1 r n) := by
 refine ⟨?_, fun c hc => ?_⟩
 ·unfold one1 rising; split <;> simp
 ·obtain ⟨_, h1, h2⟩ := one_mem hc
  rw [h1]; exact h2

theorem addC_canon : ∀ {b : List Cnt} (r : List Val) (n : Int), canon b → canon (addC b r n)
 | [], r, n, _ => one_canon r n
 | d :: b, r, n, h => by
  obtain ⟨h1, h2⟩ := List.pairwise_cons.1 h.1
  have hb : canon b := ⟨h2, fun c hc => h.2 c (List.mem_cons_of_mem _ hc)⟩
  rw [addC]
  split
  ·rename_i hlt
   obtain ⟨k1, k2⟩ := addC_canon r n hb
   refine ⟨List.pairwise_cons.2 ⟨fun c hc => ?_, k1⟩, fun c hc => ?_⟩
   ·rcases addC_row hc with e | hc
    ·rw [e]; exact hlt
    ·exact h1 c hc
   ·rcases List.mem_cons.1 hc with rfl | hc
    ·exact h.2 _ (List.mem_cons_self ..)
    ·exact k2 c hc
  ·split
   ·rename_i h0
    have e := (cR.zero _ _).1 h0
    refine ⟨List.pairwise_append.2 ⟨(one_canon r _).1, h2, fun a ha c hc => ?_⟩, fun c hc => ?_⟩
    ·rw [(one_mem ha).1, ← e]; exact h1 c hc
    ·rcases List.mem_append.1 hc with hc | hc
     ·exact (one_canon r _).2 c hc
     ·exact hb.2 c hc
   ·rename_i hn h0
    have hgt : cmpR r d.row < 0 := by
     have := cR.anti r d.row
     have := cR.rng d.row r
     omega
    refine ⟨List.pairwise_append.2 ⟨(one_canon r _).1, h.1, fun a ha c hc => ?_⟩, fun c hc => ?_⟩
    ·rw [(one_mem ha).1]
     rcases List.mem_cons.1 hc with rfl | hc
     ·exact hgt
     ·exact cR.lt_trans hgt (h1 c hc)
    ·rcases List.mem_append.1 hc with hc | hc
     ·exact (one_canon r _).2 c hc
     ·exact h.2 c hc

end Go.Proofs.YtkaljlpbmbfpgaaGreatDoor

set_option linter.unusedVariables false
set_option linter.unusedSimpArgs false
namespace Go.Proofs.YtkaljlpbmbfpgaaGreatDoor
open Go Go.Pu

def fitsN (n : Int) : Bool := decide (-1000000000 ≤ n) && decide (n ≤ 1000000000)
theorem fitsN_iff {n : Int} : fitsN n = true ↔ -1000000000 ≤ n ∧ n ≤ 1000000000 := by simp [fitsN]
def goodC (c : Cnt) : Bool := !decide (c.n = 0) && fitsN c.n && mayR c.row
theorem goodC_iff {c : Cnt} : goodC c = true ↔ c.n ≠ 0 ∧ fitsN c.n = true ∧ mayR c.row = true := by simp [goodC, and_assoc]
/-- is the entry at i good, and behind the one ahead? -/
def goodAt (b : List Cnt) (i : Nat) : Bool := goodC (b.getD i ⟨[], 0⟩) && (decide (i = 0) || decide (cmpR (b.getD (i - 1) ⟨[], 0⟩).row (b.getD i ⟨[], 0⟩).row < 0))
def mayB (b : List Cnt) : Bool := decide (∀ i, i < b.length → goodAt b i = true)

theorem chain_rising {b : List Cnt} (h : ∀ i, (hi : i + 1 < b.length) → cmpR b[i].row b[i + 1].row < 0) : rising b := by
 unfold rising
 rw [List.pairwise_iff_getElem]
 intro i j hi hj hij
 have key : ∀ k, (hk : i + 1 + k < b.length) → cmpR b[i].row b[i + 1 + k].row < 0 := by
  intro k
  induction k with
  | zero => intro hk; exact h i hk
  | succ k ih => intro hk; exact cR.lt_trans (ih (by omega)) (h (i + 1 + k) hk)
 have := key (j - (i + 1)) (by omega)
 have e : i + 1 + (j - (i + 1)) = j := by omega
 simpa only [e] using this

theorem getD_in {α : Type} {l : List α} {i : Nat} (h : i < l.length) (d : α) : l.getD i d = l[i] := by rw [List.getD, List.getElem?_eq_getElem h]; rfl

theorem mayB_iff {b : List Cnt} : mayB b = true ↔ rising b ∧ ∀ c ∈ b, goodC c = true := by
 unfold mayB
 rw [decide_eq_true_iff]
 constructor
 ·intro h
  refine ⟨chain_rising fun i hi => ?_, fun c hc => ?_⟩
  ·have := h (i + 1) hi
   unfold goodAt at this
   rw [Nat.add_sub_cancel, getD_in hi, getD_in (Nat.lt_of_succ_lt hi)] at this
   have := (Bool.and_eq_true _ _ ▸ this).2
   simpa using this
  ·obtain ⟨i, hi, rfl⟩ := List.mem_iff_getElem.1 hc
   have := h i hi
   unfold goodAt at this
   rw [getD_in hi] at this
   exact (Bool.and_eq_true _ _ ▸ this).1
 ·intro ⟨h1, h2⟩ i hi
  unfold goodAt
  rw [getD_in hi, h2 _ (List.getElem_mem hi), Bool.true_and]
  by_cases e : i = 0
  ·simp [e]
  ·have hp : i - 1 < b.length := by omega
   rw [getD_in hp]
   have := List.pairwise_iff_getElem.1 h1 (i - 1) i hp hi (by omega)
   simp [e, this]

theorem mayB_canon {b : List Cnt} (h : mayB b = true) : canon b :=
 ⟨(mayB_iff.1 h).1, fun c hc => (goodC_iff.1 ((mayB_iff.1 h).2 c hc)).1⟩
theorem mayB_n {b : List Cnt} (h : mayB b = true) {c : Cnt} (hc : c ∈ b) : c.n.natAbs ≤ 1000000000 := by
 have := fitsN_iff.1 (goodC_iff.1 ((mayB_iff.1 h).2 c hc)).2.1
 omega
theorem mayB_row {b : List Cnt} (h : mayB b = true) {c : Cnt} (hc : c ∈ b) : mayR c.row = true := (goodC_iff.1 ((mayB_iff.1 h).2 c hc)).2.2
theorem mayB_nil : mayB [] = true := mayB_iff.2 ⟨List.Pairwise.nil, fun _ h => by cases h⟩

/-- counts as a bag -/
def sumB (l : List Cnt) : List Cnt := l.foldl (fun b c => addC b c.row c.n) []
theorem foldC (l b : List Cnt) (hb : canon b) : canon (l.foldl (fun b c => addC b c.row c.n) b) ∧ ∀ r, cnt (l.foldl (fun b c => addC b c.row c.n) b) r = cnt b r + cnt l r := by
 induction l generalizing b with
 | nil => exact ⟨hb, fun r => by simp⟩
 | cons c l ih =>
  obtain ⟨h1, h2⟩ := ih (addC b c.row c.n) (addC_canon _ _ hb)
  refine ⟨h1, fun r => ?_⟩
  rw [List.foldl_cons, h2, addC_cnt, cnt_cons]; omega
theorem sumB_canon (l : List Cnt) : canon (sumB l) := (foldC l [] canon_nil).1
theorem sumB_cnt (l : List Cnt) (r : List Val) : cnt (sumB l) r = cnt l r := by
 have := (foldC l [] canon_nil).2 r
 rw [cnt_nil, Int.zero_add] at this
 exact this
theorem sumB_eq {l s : List Cnt} (h1 : canon s) (h2 : ∀ r, cnt s r = cnt l r) : s = sumB l := canon_ext h1 (sumB_canon l) fun r => by rw [h2, sumB_cnt]
theorem sumB_self {b : List Cnt} (h : canon b) : sumB b = b := (sumB_eq h fun _ => rfl).symm
theorem fold_row : ∀ (l b : List Cnt) {c : Cnt}, c ∈ l.foldl (fun b c => addC b c.row c.n) b → (∃ d ∈ l, d.row = c.row) ∨ c ∈ b
 | [], b, c, h => .inr h
 | d :: l, b, c, h => by
  rcases fold_row l _ h with ⟨e, he, h⟩ | h
  ·exact .inl ⟨e, List.mem_cons_of_mem _ he, h⟩
  ·rcases addC_row h with h | h
   ·exact .inl ⟨d, List.mem_cons_self .., h.symm⟩
   ·exact .inr h
theorem sumB_row {l : List Cnt} {c : Cnt} (h : c ∈ sumB l) : ∃ d ∈ l, d.row = c.row := by
 rcases fold_row l [] h with h | h
 ·exact h
 ·cases h
theorem sumB_n {l : List Cnt} {c : Cnt} (h : c ∈ sumB l) : c.n = cnt l c.row := by
 rw [← sumB_cnt]; exact (cnt_mem (sumB_canon l).1 h).symm
theorem cnt_abs (l : List Cnt) (r : List Val) : (cnt l r).natAbs ≤ absN l := by
 induction l with
 | nil => simp
 | cons c l ih => rw [cnt_cons]; simp only [absN]; split <;> omega

theorem addC_len : ∀ (b : List Cnt) (r : List Val) (n : Int), (addC b r n).length ≤ b.length + 1
 | [], r, n => by unfold addC one1; split <;> simp
 | c :: b, r, n => by
  have h1 := addC_len b r n
  have h2 : ∀ m, (one1 r m).length ≤ 1 := fun m => by unfold one1; split <;> simp
  have h3 := h2 n
  have h4 := h2 (n + c.n)
  unfold addC
  split
  ·simp only [List.length_cons]; omega
  ·split <;> simp only [List.length_append, List.length_cons] <;> omega
theorem fold_len : ∀ (l b : List Cnt), (l.foldl (fun b c => addC b c.row c.n) b).length ≤ b.length + l.length
 | [], b => by simp
 | c :: l, b => by
  have h1 := fold_len l (addC b c.row c.n)
  have h2 := addC_len b c.row c.n
  rw [List.foldl_cons, List.length_cons]; omega
theorem sumB_len (l : List Cnt) : (sumB l).length ≤ l.length := by
 have := fold_len l []
 rw [List.length_nil, Nat.zero_add] at this
 exact this

/-- is a sum of bags a bag that may be? -/
theorem sumB_may {l : List Cnt} (hr : ∀ c ∈ l, mayR c.row = true) : mayB (sumB l) = true ↔ ∀ c ∈ sumB l, fitsN c.n = true := by
 rw [mayB_iff]
 constructor
 ·intro h c hc; exact (goodC_iff.1 (h.2 c hc)).2.1
 ·intro h
  refine ⟨(sumB_canon l).1, fun c hc => goodC_iff.2 ⟨(sumB_canon l).2 c hc, h c hc, ?_⟩⟩
  obtain ⟨d, hd, e⟩ := sumB_row hc
  rw [← e]; exact hr d hd

/-! turned -/

def negC (c : Cnt) : Cnt := ⟨c.row, -c.n⟩
def negB (b : List Cnt) : List Cnt := b.map negC
theorem cnt_neg (b : List Cnt) (r : List Val) : cnt (negB b) r = -cnt b r := by
 induction b with
 | nil => rfl
 | cons c b ih =>
  unfold negB at *
  rw [List.map_cons, cnt_cons, cnt_cons, ih]
  show (if c.row = r then -c.n else 0) + _ = _
  split <;> omega
theorem rising_map {f : Cnt → Cnt} (hf : ∀ c, (f c).row = c.row) {b : List Cnt} (h : rising b) : rising (b.map f) := by
 unfold rising
 rw [List.pairwise_map]
 exact h.imp fun {x y} hxy => by rw [hf, hf]; exact hxy
theorem neg_may {b : List Cnt} (h : mayB b = true) : mayB (negB b) = true := by
 obtain ⟨h1, h2⟩ := mayB_iff.1 h
 refine mayB_iff.2 ⟨rising_map (f := negC) (fun c => rfl) h1, fun c hc => ?_⟩
 obtain ⟨d, hd, rfl⟩ := List.mem_map.1 hc
 obtain ⟨k1, k2, k3⟩ := goodC_iff.1 (h2 d hd)
 have := fitsN_iff.1 k2
 exact goodC_iff.2 ⟨by show -d.n ≠ 0; omega, fitsN_iff.2 (by show -1000000000 ≤ -d.n ∧ -d.n ≤ 1000000000; omega), k3⟩

/-! a row -/

/-! rows -/

def tot (b : List Cnt) : Int := sumN b
end Go.Proofs.YtkaljlpbmbfpgaaGreatDoor

set_option linter.unusedVariables false
set_option linter.unusedSimpArgs false
namespace Go.Proofs.YtkaljlpbmbfpgaaGreatDoor
open Go Go.Pu

def plusB (ls : List (List Cnt)) : List Cnt :=
 if ls.all mayB = true then (if (sumB ls.flatten).all (fun c => fitsN c.n) = true then sumB ls.flatten else []) else []
def turnB (b : List Cnt) : List Cnt := if mayB b = true then negB b else []

theorem flat_row {ls : List (List Cnt)} (h : ∀ b ∈ ls, mayB b = true) : ∀ c ∈ ls.flatten, mayR c.row = true := by
 intro c hc
 obtain ⟨b, hb, hc⟩ := List.mem_flatten.1 hc
 exact mayB_row (h b hb) hc

theorem plusB_ok {ls : List (List Cnt)} (h : ∀ b ∈ ls, mayB b = true) (hn : ∀ r, (cnt ls.flatten r).natAbs ≤ 1000000000) : plusB ls = sumB ls.flatten ∧ mayB (sumB ls.flatten) = true := by
 have hf : ∀ c ∈ sumB ls.flatten, fitsN c.n = true := fun c hc => by
  have := hn c.row
  rw [sumB_n hc]
  exact fitsN_iff.2 (by omega)
 refine ⟨?_, (sumB_may (flat_row h)).2 hf⟩
 unfold plusB
 rw [if_pos (List.all_eq_true.2 h), if_pos (List.all_eq_true.2 hf)]

/-- a bag that may be, of low counts -/
def lowB (b : List Cnt) : Prop := mayB b = true ∧ ∀ c ∈ b, -1000000 ≤ c.n ∧ c.n ≤ 1000000
theorem lowB.cnt {b : List Cnt} (h : lowB b) (r : List Val) : (cnt b r).natAbs ≤ 1000000 := by
 by_cases e : Go.Proofs.YtkaljlpbmbfpgaaGreatDoor.cnt b r = 0
 ·rw [e]; decide
 ·obtain ⟨c, hc, hr⟩ := cnt_ne e
  have h1 := cnt_mem (mayB_canon h.1).1 hc
  have h2 := h.2 c hc
  rw [hr] at h1
  rw [h1]; omega

end Go.Proofs.YtkaljlpbmbfpgaaGreatDoor

set_option linter.unusedVariables false
set_option linter.unusedSimpArgs false
namespace Go.Proofs.YtkaljlpbmbfpgaaGreatDoor
open Go Go.Pu

theorem cmp_Compare_int_res (a b : Int) : (m_zb [.i a, .i b]).res = some (0, [.i (Cmp.cmpI a b)]) := by
 simp only [m_zb, Cmp.cmpI, res_test, res_stop, bne_self_eq_false, Bool.false_eq_true, if_false, decide_eq_true_eq]
 split
 ·rfl
 ·split <;> rfl

theorem value_May_res (v : Val) : (m_zo [.i v.k, .i v.n, .s (bs v.s)]).res = some (0, [.b (mayV v)]) := by
 simp only [m_zo, mayV, res_test, res_stop, bs_toList, bs_size]
 by_cases h0 : v.k = 0
 ·simp [h0]
 ·by_cases h1 : v.k = 1
  ·by_cases h2 : v.n = 0
   ·simp [h1, h2]
   ·by_cases h3 : v.n = 1 <;> simp [h1, h2, h3]
  ·by_cases h2 : v.k = 2
   ·simp [h2]
   ·by_cases h3 : v.k = 3
    ·have h5 : ((v.s.length : Int) ≤ 1000) ↔ v.s.length ≤ 1000 := by omega
     by_cases h4 : v.n = 0
     ·simp [h3, h4, h5]
     ·simp [h3, h4]
    ·simp [h0, h1, h2, h3]

theorem R01_May_res (v : Val) : (m_zai [.i v.k, .i v.n, .s (bs v.s)]).res = some (0, [.b (mayV v)]) := by
 simp only [m_zai, mayV, res_test, res_stop, bs_toList, bs_size]
 by_cases h0 : v.k = 0
 ·by_cases hs : v.s = []
  ·by_cases h4 : v.n = 0
   ·simp [h0, hs, h4]
   ·by_cases h5 : 0 ≤ v.n
    ·have : ¬ v.n ≤ 0 := by omega
     simp [h0, hs, h4, h5, this]
    ·simp [h0, hs, h4, h5]
  ·simp [h0, hs]
 ·by_cases h1 : v.k = 1
  ·by_cases hs : v.s = []
   ·by_cases h5 : 0 ≤ v.n
    ·by_cases h6 : v.n ≤ 1
     ·have : v.n = 0 ∨ v.n = 1 := by omega
      rcases this with h | h <;> simp [h1, hs, h]
     ·have h7 : ¬ v.n = 0 := by omega
      have h8 : ¬ v.n = 1 := by omega
      simp [h1, hs, h5, h6, h7, h8]
    ·have h7 : ¬ v.n = 0 := by omega
     have h8 : ¬ v.n = 1 := by omega
     simp [h1, hs, h5, h7, h8]
   ·simp [h1, hs]
  ·by_cases h2 : v.k = 2
   ·simp [h2]
   ·by_cases h3 : v.k = 3
    ·have h5 : ((v.s.length : Int) ≤ 1000) ↔ v.s.length ≤ 1000 := by omega
     by_cases h4 : v.n = 0
     ·simp [h3, h4, h5]
     ·simp [h3, h4]
    ·simp [h0, h1, h2, h3]

theorem value_Compare_res (v w : Val) : (m_zc [.i v.k, .i v.n, .s (bs v.s), .i w.k, .i w.n, .s (bs w.s)]).res = some (0, [.i (cmpV v w)]) := by
 have hl : ∀ x y z : Int, lres rd_zc_115_3 [.i 0, .l [[pI x], [pI y], [pI z]], .i 3, .i 0] = if Cmp.thn x (Cmp.thn y z) = 0 then some (1, [.i 0]) else some (0, [.i (Cmp.thn x (Cmp.thn y z))]) := by
  intro x y z
  have s1 : ∀ i : Int, i = 0 ∨ i = 1 ∨ i = 2 → (rd_zc_115_3 [.i 0, .l [[pI x], [pI y], [pI z]], .i 3, .i i]).val =
    if cI (el [[pI x], [pI y], [pI z]] i) 0 = 0 then some (.next [.i 0, .l [[pI x], [pI y], [pI z]], .i 3, .i (i + 1)]) else some (.stop 0 [.i (cI (el [[pI x], [pI y], [pI z]] i) 0)]) := by
   intro i hi
   have h1 : i < 3 := by omega
   have h2 : inR i (ln [[pI x], [pI y], [pI z]]) = true := by rw [inR_iff]; simp [ln]; omega
   have h3 : w64 (i + 1) = i + 1 := w64_eq (by omega) (by omega)
   simp only [rd_zc_115_3, rt_test, rt_stop, rt_next, h1, h2, h3, decide_true, if_true]
   by_cases h : cI (el [[pI x], [pI y], [pI z]] i) 0 = 0 <;> simp [h]
  have s3 : (rd_zc_115_3 [.i 0, .l [[pI x], [pI y], [pI z]], .i 3, .i 3]).val = some (.stop 1 [.i 0]) := by simp [rd_zc_115_3]
  have e0 : cI (el [[pI x], [pI y], [pI z]] 0) 0 = x := rfl
  have e1 : cI (el [[pI x], [pI y], [pI z]] 1) 0 = y := rfl
  have e2 : cI (el [[pI x], [pI y], [pI z]] 2) 0 = z := rfl
  have t0 := s1 0 (by omega)
  have t1 := s1 1 (by omega)
  have t2 := s1 2 (by omega)
  rw [e0] at t0; rw [e1] at t1; rw [e2] at t2
  unfold Cmp.thn
  by_cases hx : x = 0
  ·rw [if_pos hx] at t0
   rw [lres_next t0]
   by_cases hy : y = 0
   ·rw [if_pos hy] at t1
    rw [show (0 : Int) + 1 = 1 from rfl, lres_next t1]
    by_cases hz : z = 0
    ·rw [if_pos hz] at t2
     rw [show (1 : Int) + 1 = 2 from rfl, lres_next t2, show (2 : Int) + 1 = 3 from rfl, lres_stop s3]
     simp [hx, hy, hz]
    ·rw [if_neg hz] at t2
     rw [show (1 : Int) + 1 = 2 from rfl, lres_stop t2]
     simp [hx, hy, hz]
   ·rw [if_neg hy] at t1
    rw [show (0 : Int) + 1 = 1 from rfl, lres_stop t1]
    simp [hx, hy]
  ·rw [if_neg hx] at t0
   rw [lres_stop t0]
   simp [hx]
 simp only [m_zc, cmp_Compare_int_res, hl, res_test, ok_some', out_some, uI_0, bs_data, beq_self_eq_true, if_true, cmpV]
 split <;> rename_i h <;> simp [h]

end Go.Proofs.YtkaljlpbmbfpgaaGreatDoor

set_option linter.unusedVariables false
set_option linter.unusedSimpArgs false
namespace Go.Proofs.YtkaljlpbmbfpgaaGreatDoor
open Go Go.Pu

def tru (b : Bool) : Val := ⟨1, if b then 1 else 0, []⟩
def nul : Val := ⟨0, 0, []⟩
def intV (n : Int) : Val := ⟨2, n, []⟩
def Val.u (v : Val) : List U := [.i v.k, .i v.n, .s (bs v.s)]

def notV (v : Val) : Val := if v = tru true then tru false else if v = tru false then tru true else nul

/-- And (strong = false), Or (strong = true) -/
def foldV (strong : Bool) (l : List Val) : Val := if tru strong ∈ l then tru strong else if ∀ x ∈ l, x = tru (!strong) then tru (!strong) else nul

end Go.Proofs.YtkaljlpbmbfpgaaGreatDoor

set_option linter.unusedVariables false
set_option linter.unusedSimpArgs false
namespace Go.Proofs.YtkaljlpbmbfpgaaGreatDoor
open Go Go.Pu

/-- a sum over a bag, of what depends on the row, times the count -/
def lin (g : List Val → Int) : List Cnt → Int
 | [] => 0
 | c :: l => c.n * g c.row + lin g l

theorem lin_app (g : List Val → Int) (a b : List Cnt) : lin g (a ++ b) = lin g a + lin g b := by
 induction a with
 | nil => simp [lin]
 | cons c a ih => simp only [List.cons_append, lin, ih]; omega

theorem lin_ext {g f : List Val → Int} {a : List Cnt} (h : ∀ c ∈ a, g c.row = f c.row) : lin g a = lin f a := by
 induction a with
 | nil => rfl
 | cons c a ih => simp only [lin]; rw [h c (List.mem_cons_self ..), ih fun d hd => h d (List.mem_cons_of_mem _ hd)]

theorem sumN_lin (a : List Cnt) : sumN a = lin (fun _ => 1) a := by
 induction a with
 | nil => rfl
 | cons c a ih =>
  have : sumN (c :: a) = c.n + sumN a := by simp [sumN]
  rw [this, ih]; simp [lin]

/-! products -/

/-- a row's value in a column; null, if there is none -/
def atV (r : List Val) (n : Int) : Val := if 0 ≤ n ∧ n < r.length then r.getD n.toNat nul else nul
/-! what stays -/

end Go.Proofs.YtkaljlpbmbfpgaaGreatDoor

set_option linter.unusedVariables false
set_option linter.unusedSimpArgs false
namespace Go.Proofs.YtkaljlpbmbfpgaaGreatDoor
open Go Go.Pu

def in64 (n : Int) : Bool := decide (-9223372036854775808 ≤ n ∧ n < 9223372036854775808)

/-- what is done to two numbers: null, too large, or a number -/
def arith (f : Int → Int → Int) (v w : Val) : Val × Bool :=
 if v.k = 0 ∨ w.k = 0 then (nul, true) else if v.k ≠ 2 ∨ w.k ≠ 2 then (nul, false) else if in64 (f v.n w.n) then (intV (f v.n w.n), true) else (nul, false)
def addV : Val → Val → Val × Bool := arith (· + ·)
def subV : Val → Val → Val × Bool := arith (· - ·)
def mulV : Val → Val → Val × Bool := arith (· * ·)
theorem w64_def (n : Int) : w64 n = (n + 9223372036854775808) % 18446744073709551616 - 9223372036854775808 := by
 unfold w64; rw [IntKind.wrap_i64]
end Go.Proofs.YtkaljlpbmbfpgaaGreatDoor

set_option linter.unusedVariables false
set_option linter.unusedSimpArgs false
set_option linter.constructorNameAsVariable false
namespace Go.Proofs.YtkaljlpbmbfpgaaGreatDoor
open Go Go.Pu

theorem law_of_row {P : Program} {X : Ext} {M : FuncId → Bool} {L : FuncId → Nat → Option (List Nat)} {f : FuncId} {S : FSp} {m : List U → Rt} {xs : List PV} {us : List U} (hX : X f = some (gF S m)) (hd : decs S.ap (nrms S.ap xs) = some us)
  (ha : S.ah = []) (ho : S.outs = [([.one .b], [])]) (hr : (m us).res = some (0, [.b true])) : ∃ n hc, call P X M L n f xs [] = some (.bool true, hc) := by
 refine ⟨1, [], ?_⟩
 simp only [call, hX, gF, gW, hd, ha, decH, fU_eq, List.append_nil, ho, outsTr, Tr.val, hr, ok_some', out_some, beq_self_eq_true, if_true]
 rfl

end Go.Proofs.YtkaljlpbmbfpgaaGreatDoor

set_option linter.unusedVariables false
set_option linter.unusedSimpArgs false
namespace Go.Proofs.YtkaljlpbmbfpgaaGreatDoor
open Go Go.Pu

theorem nul_ok : nul.ok := ⟨by simp [nul, i64], by simp [nul, i64], by simp [nul]⟩
end Go.Proofs.YtkaljlpbmbfpgaaGreatDoor

set_option linter.unusedVariables false
set_option linter.unusedSimpArgs false
namespace Go.Proofs.YtkaljlpbmbfpgaaGreatDoor
open Go Go.Pu

end Go.Proofs.YtkaljlpbmbfpgaaGreatDoor

set_option linter.unusedVariables false
set_option linter.unusedSimpArgs false
namespace Go.Proofs.YtkaljlpbmbfpgaaGreatDoor
open Go Go.Pu

end Go.Proofs.YtkaljlpbmbfpgaaGreatDoor

set_option linter.unusedVariables false
set_option linter.unusedSimpArgs false
namespace Go.Proofs.YtkaljlpbmbfpgaaGreatDoor
open Go Go.Pu

def dbl (s : List UInt8) : List UInt8 := s.flatMap fun b => if b = 39 then [39, 39] else [b]
@[simp] theorem dbl_nil : dbl [] = [] := rfl
theorem dbl_cons (b : UInt8) (s : List UInt8) : dbl (b :: s) = (if b = 39 then [39, 39] else [b]) ++ dbl s := by simp [dbl]
theorem dbl_app (s t : List UInt8) : dbl (s ++ t) = dbl s ++ dbl t := by simp [dbl]
theorem dbl_same {s : List UInt8} (h : (39 : UInt8) ∉ s) : dbl s = s := by
 induction s with
 | nil => rfl
 | cons b s ih =>
  rw [dbl_cons, ih (fun h' => h (List.mem_cons_of_mem _ h')), if_neg (fun e => h (by rw [e]; exact List.mem_cons_self ..))]
  rfl
theorem dbl_len (s : List UInt8) : (dbl s).length ≤ 2 * s.length := by
 induction s with
 | nil => simp
 | cons b s ih => rw [dbl_cons]; split <;> simp <;> omega

theorem ixb_none {s : List UInt8} {c : UInt8} (h : c ∉ s) : Lib.indexByte s c = -1 := by
 induction s with
 | nil => rfl
 | cons b s ih =>
  unfold Lib.indexByte
  have hb : ¬ b = c := fun e => h (by rw [e]; exact List.mem_cons_self ..)
  rw [ih (fun h' => h (List.mem_cons_of_mem _ h'))]
  simp [hb]

theorem ixb_at {p q : List UInt8} {c : UInt8} (h : c ∉ p) : Lib.indexByte (p ++ c :: q) c = p.length := by
 induction p with
 | nil => simp [Lib.indexByte]
 | cons b p ih =>
  have hb : ¬ b = c := fun e => h (by rw [e]; exact List.mem_cons_self ..)
  have h2 := ih (fun h' => h (List.mem_cons_of_mem _ h'))
  rw [List.cons_append]
  unfold Lib.indexByte
  rw [h2]
  have : ((p.length : Int) == -1) = false := by rw [beq_eq_false_iff_ne]; omega
  simp [hb, this]

theorem repl_dbl : ∀ (n : Nat) (s : List UInt8) (fuel : Nat), s.length ≤ n → s.length < fuel → Lib.replaceK [39] [39, 39] (Lib.countFrom [39] fuel s) s = dbl s ∧ Lib.countFrom [39] fuel s ≤ s.length := by
 intro n
 induction n with
 | zero =>
  intro s fuel h1 h2
  have : s = [] := List.eq_nil_of_length_eq_zero (by omega)
  subst this
  cases fuel with
  | zero => omega
  | succ fuel => exact ⟨rfl, Nat.le_refl _⟩
 | succ n ih =>
  intro s fuel h1 h2
  cases fuel with
  | zero => omega
  | succ fuel =>
   by_cases hm : (39 : UInt8) ∈ s
   ·obtain ⟨p, q, rfl, hp⟩ := List.eq_append_cons_of_mem hm
    have hi : Lib.index (p ++ 39 :: q) [39] = (p.length : Nat) := by rw [Lib.index_one, ixb_at hp]
    have hne : ((p.length : Int) == -1) = false := by rw [beq_eq_false_iff_ne]; omega
    have hd : (p ++ 39 :: q).drop (p.length + 1) = q := by
     rw [← List.drop_drop, List.drop_left]; rfl
    simp only [List.length_append, List.length_cons] at h1 h2
    obtain ⟨k1, k2⟩ := ih q fuel (by omega) (by omega)
    have hc : Lib.countFrom [39] (fuel + 1) (p ++ 39 :: q) = Lib.countFrom [39] fuel q + 1 := by
     rw [Lib.countFrom, hi, hne]
     simp only [Bool.false_eq_true, if_false, Int.toNat_natCast, List.length_singleton, hd]
     omega
    rw [hc]
    refine ⟨?_, by simp only [List.length_append, List.length_cons]; omega⟩
    rw [Lib.replaceK_hit _ _ _ _ p.length hi, List.take_left, List.length_singleton, hd, k1, dbl_app, dbl_cons, if_pos rfl, dbl_same hp]
    simp
   ·have hi : Lib.index s [39] = -1 := by rw [Lib.index_one, ixb_none hm]
    have hc : Lib.countFrom [39] (fuel + 1) s = 0 := by rw [Lib.countFrom, hi]; rfl
    rw [hc, dbl_same hm]
    exact ⟨rfl, Nat.zero_le _⟩

theorem replB_dbl (s : List UInt8) : replB (bs s) (bs [39]) (bs [39, 39]) = bs (dbl s) := by
 have h := (repl_dbl s.length s (s.length + 1) (Nat.le_refl _) (by omega)).1
 have e1 : ([39] == ([39, 39] : List UInt8)) = false := by decide
 show (⟨(Lib.replaceAll s [39] [39, 39]).toArray⟩ : ByteArray) = _
 unfold Lib.replaceAll Lib.replace Lib.replaceNum
 simp only [e1, Bool.false_eq_true, if_false, show ((-1 : Int) < 0) from by decide, true_or, if_true]
 unfold Lib.count
 rw [h]
 rfl

theorem replOk_of {s : List UInt8} (h : s.length ≤ 100000) : replOk (bs s) (bs [39]) (bs [39, 39]) = true := by
 have h2 := (repl_dbl s.length s (s.length + 1) (Nat.le_refl _) (by omega)).2
 have h3 : Lib.countB (bs s) (bs [39]) = Lib.countFrom [39] (s.length + 1) s := rfl
 unfold replOk
 rw [decide_eq_true_eq]
 simp only [bs_size, List.length_cons, List.length_nil]
 rw [h3]
 omega

/-- a value's text -/
def txt (v : Val) : List UInt8 :=
 if v.k = 0 then [110, 117, 108, 108] else if v.k = 1 then (if v.n ≠ 0 then [116, 114, 117, 101] else [102, 97, 108, 115, 101]) else if v.k = 2 then Lib.itoa v.n else if v.k = 3 then 39 :: (dbl v.s ++ [39]) else [63]

theorem bs_app (a b : List UInt8) : bs a ++ bs b = bs (a ++ b) := by
 apply ByteArray.ext
 simp [bs, ByteArray.data_append]

theorem itoaB_bs (n : Int) : itoaB n = bs (Lib.itoa n) := rfl

theorem FormatBool_res (b : Bool) : (m_zw [.b b]).res = some (0, [.s (bs (if b then [116, 114, 117, 101] else [102, 97, 108, 115, 101]))]) := by
 cases b <;> simp [m_zw, bs]

theorem Text_res (v : Val) (hv : v.ok) (hs : v.s.length ≤ 100000) : (m_zx [.i v.k, .i v.n, .s (bs v.s)]).res = some (0, [.s (bs (txt v))]) := by
 have h1 := FormatBool_res (v.n != 0)
 have h2 := replOk_of hs
 have h3 := replB_dbl v.s
 have h4 : inI64 v.n = true := by
  have := hv.2.1; unfold i64 at this; unfold inI64; rw [decide_eq_true_eq]; omega
 have h5 := dbl_len v.s
 have e1 : ({ data := #[(39 : UInt8)] } : ByteArray) = bs [39] := rfl
 have e2 : ({ data := #[(39 : UInt8), (39 : UInt8)] } : ByteArray) = bs [39, 39] := rfl
 simp only [m_zx, e1, e2, res_test, res_stop, h1, h2, h3, h4, ok_some', out_some, uS_0, beq_self_eq_true, if_true, bs_app, bs_size, itoaB_bs, txt]
 by_cases k0 : v.k = 0
 ·simp [k0, bs]
 by_cases k1 : v.k = 1
 ·by_cases n0 : v.n = 0 <;> simp [k1, n0]
 by_cases k2 : v.k = 2
 ·simp [k2]
 by_cases k3 : v.k = 3
 ·have g1 : decide ((1 : Int) + ((dbl v.s).length : Int) ≤ 9223372036854775807) = true := by rw [decide_eq_true_eq]; omega
  have g2 : decide ((([39] ++ dbl v.s : List UInt8).length : Int) + 1 ≤ 9223372036854775807) = true := by rw [decide_eq_true_eq]; simp; omega
  have g1' : decide (1 + (dbl v.s).length ≤ 9223372036854775807) = true := by rw [decide_eq_true_eq]; omega
  have g2' : decide (([39] ++ dbl v.s : List UInt8).length + 1 ≤ 9223372036854775807) = true := by rw [decide_eq_true_eq]; simp; omega
  simp only [k3, g1', g2', if_true]
  simp
 ·simp [k0, k1, k2, k3, bs]

/-! unlike values have unlike texts, whatever stands behind them -/

def dig (b : UInt8) : Bool := decide (48 ≤ b.toNat ∧ b.toNat ≤ 57)

theorem dig_of {k : Nat} (h : k < 10) : dig (UInt8.ofNat (48 + k)) = true ∧ (UInt8.ofNat (48 + k)).toNat = 48 + k := by
 have : (UInt8.ofNat (48 + k)).toNat = 48 + k := by simp [UInt8.toNat_ofNat']; omega
 exact ⟨by unfold dig; rw [decide_eq_true_eq, this]; omega, this⟩

def valD (l : List UInt8) : Nat := l.foldl (fun a d => 10 * a + (d.toNat - 48)) 0

theorem dec_spec : ∀ (n u : Nat), u < n → (∀ b ∈ Lib.decDigits u, dig b = true) ∧ Lib.decDigits u ≠ [] ∧ valD (Lib.decDigits u) = u
 | 0, u, h => by omega
 | n + 1, u, h => by
  by_cases h10 : u < 10
  ·obtain ⟨g1, g2⟩ := dig_of h10
   rw [Lib.decDigits_one h10]
   exact ⟨by simpa using g1, by simp, by simp only [valD, List.foldl, g2]; omega⟩
  ·obtain ⟨g1, g2, g3⟩ := dec_spec n (u / 10) (by omega)
   obtain ⟨d1, d2⟩ := dig_of (k := u % 10) (by omega)
   rw [Lib.decDigits, dif_neg h10]
   refine ⟨fun b hb => ?_, by simp, ?_⟩
   ·rcases List.mem_append.1 hb with hb | hb
    ·exact g1 b hb
    ·rw [List.mem_singleton.1 hb]; exact d1
   ·unfold valD at g3 ⊢
    rw [List.foldl_append, g3]
    simp only [List.foldl, d2]
    omega

theorem dec_inj {a b : Nat} (h : Lib.decDigits a = Lib.decDigits b) : a = b := by
 rw [← (dec_spec (a + 1) a (by omega)).2.2, ← (dec_spec (b + 1) b (by omega)).2.2, h]

/-- what stands behind does not go on with a digit, a letter, or a quote -/
def stopB : List UInt8 → Bool
 | [] => true
 | b :: _ => !(dig b) && decide (b ≠ 39)

theorem digs_split : ∀ {p q x y : List UInt8}, (∀ b ∈ p, dig b = true) → (∀ b ∈ q, dig b = true) → stopB x = true → stopB y = true → p ++ x = q ++ y → p = q ∧ x = y
 | [], [], x, y, _, _, _, _, h => ⟨rfl, h⟩
 | [], b :: q, x, y, _, hq, hx, _, h => by
  simp only [List.nil_append, List.cons_append] at h
  subst h
  have := hq b (by simp)
  simp [stopB, this] at hx
 | a :: p, [], x, y, hp, _, _, hy, h => by
  simp only [List.nil_append, List.cons_append] at h
  subst h
  have := hp a (by simp)
  simp [stopB, this] at hy
 | a :: p, b :: q, x, y, hp, hq, hx, hy, h => by
  simp only [List.cons_append, List.cons.injEq] at h
  obtain ⟨rfl, h⟩ := h
  obtain ⟨rfl, e⟩ := digs_split (fun c hc => hp c (by simp [hc])) (fun c hc => hq c (by simp [hc])) hx hy h
  exact ⟨rfl, e⟩

theorem itoa_split {a b : Int} {x y : List UInt8} (hx : stopB x = true) (hy : stopB y = true) (h : Lib.itoa a ++ x = Lib.itoa b ++ y) : a = b ∧ x = y := by
 have hd : ∀ u, ∀ c ∈ Lib.decDigits u, dig c = true := fun u => (dec_spec (u + 1) u (by omega)).1
 have hn : ∀ u, Lib.decDigits u ≠ [] := fun u => (dec_spec (u + 1) u (by omega)).2.1
 have hm : ∀ u z w, (45 : UInt8) :: z ≠ Lib.decDigits u ++ w := by
  intro u z w e
  cases hu : Lib.decDigits u with
  | nil => exact hn u hu
  | cons c l =>
   rw [hu] at e
   simp only [List.cons_append, List.cons.injEq] at e
   have := hd u c (by rw [hu]; simp)
   rw [← e.1] at this
   exact absurd this (by decide)
 unfold Lib.itoa at h
 split at h <;> split at h
 ·simp only [List.cons_append, List.cons.injEq, true_and] at h
  obtain ⟨e, h⟩ := digs_split (hd _) (hd _) hx hy h
  have := dec_inj e
  exact ⟨by omega, h⟩
 ·simp only [List.cons_append] at h; exact absurd h (hm _ _ _)
 ·simp only [List.cons_append] at h; exact absurd h.symm (hm _ _ _)
 ·obtain ⟨e, h⟩ := digs_split (hd _) (hd _) hx hy h
  have := dec_inj e
  exact ⟨by omega, h⟩

theorem dbl_split : ∀ {s t x y : List UInt8}, stopB x = true → stopB y = true → dbl s ++ 39 :: x = dbl t ++ 39 :: y → s = t ∧ x = y
 | [], [], x, y, _, _, h => by simp only [dbl_nil, List.nil_append, List.cons.injEq, true_and] at h; exact ⟨rfl, h⟩
 | [], b :: t, x, y, hx, _, h => by
  rw [dbl_cons] at h
  by_cases e : b = 39
  ·rw [if_pos e] at h
   simp only [dbl_nil, List.nil_append, List.cons_append, List.cons.injEq, true_and] at h
   rw [h] at hx; simp [stopB] at hx
  ·rw [if_neg e] at h
   simp only [dbl_nil, List.nil_append, List.cons_append, List.cons.injEq] at h
   exact absurd h.1.symm e
 | a :: s, [], x, y, _, hy, h => by
  rw [dbl_cons] at h
  by_cases e : a = 39
  ·rw [if_pos e] at h
   simp only [dbl_nil, List.nil_append, List.cons_append, List.cons.injEq, true_and] at h
   rw [← h] at hy; simp [stopB] at hy
  ·rw [if_neg e] at h
   simp only [dbl_nil, List.nil_append, List.cons_append, List.cons.injEq] at h
   exact absurd h.1 e
 | a :: s, b :: t, x, y, hx, hy, h => by
  rw [dbl_cons, dbl_cons] at h
  by_cases e : a = 39 <;> by_cases f : b = 39
  ·rw [if_pos e, if_pos f] at h
   simp only [List.nil_append, List.cons_append, List.cons.injEq, true_and] at h
   obtain ⟨rfl, h9⟩ := dbl_split hx hy h
   exact ⟨by rw [e, f], h9⟩
  ·rw [if_pos e, if_neg f] at h
   simp only [List.nil_append, List.cons_append, List.cons.injEq] at h
   exact absurd h.1.symm f
  ·rw [if_neg e, if_pos f] at h
   simp only [List.nil_append, List.cons_append, List.cons.injEq] at h
   exact absurd h.1 e
  ·rw [if_neg e, if_neg f] at h
   simp only [List.nil_append, List.cons_append, List.cons.injEq] at h
   obtain ⟨rfl, h⟩ := h
   obtain ⟨rfl, h9⟩ := dbl_split hx hy h
   exact ⟨rfl, h9⟩

/-- the first byte of a text tells the kind -/
def kindB (b : UInt8) : Nat := if b = 110 then 0 else if b = 116 then 1 else if b = 102 then 2 else if b = 39 then 4 else 3

theorem itoa_head (n : Int) : ∃ b l, Lib.itoa n = b :: l ∧ (b = 45 ∨ dig b = true) := by
 unfold Lib.itoa
 split
 ·exact ⟨_, _, rfl, .inl rfl⟩
 ·obtain ⟨h1, h2, _⟩ := dec_spec (n.toNat + 1) n.toNat (by omega)
  cases hu : Lib.decDigits n.toNat with
  | nil => exact absurd hu h2
  | cons c l => exact ⟨c, l, rfl, .inr (h1 c (by rw [hu]; simp))⟩

theorem head3 (n : Int) : ∃ b l, Lib.itoa n = b :: l ∧ kindB b = 3 := by
 obtain ⟨b, l, h1, h2⟩ := itoa_head n
 refine ⟨b, l, h1, ?_⟩
 rcases h2 with rfl | h2
 ·decide
 ·unfold dig at h2
  rw [decide_eq_true_eq] at h2
  unfold kindB
  have e : ∀ c : UInt8, (c.toNat < 48 ∨ 57 < c.toNat) → ¬ b = c := fun c hc e => by subst e; omega
  rw [if_neg (e 110 (by decide)), if_neg (e 116 (by decide)), if_neg (e 102 (by decide)), if_neg (e 39 (by decide))]

theorem txt_head (v : Val) (hv : mayV v = true) : ∃ b l, txt v = b :: l ∧ kindB b = (if v.k = 0 then 0 else if v.k = 1 then (if v.n ≠ 0 then 1 else 2) else if v.k = 2 then 3 else 4) := by
 unfold txt
 by_cases k0 : v.k = 0
 ·simp only [k0, if_true]; exact ⟨_, _, rfl, rfl⟩
 by_cases k1 : v.k = 1
 ·by_cases n0 : v.n = 0
  ·simp [k1, n0]; decide
  ·simp [k1, n0]; decide
 by_cases k2 : v.k = 2
 ·obtain ⟨b, l, h1, h2⟩ := head3 v.n
  simp [k2, h1, h2]
 ·have k3 : v.k = 3 := by
   unfold mayV at hv
   simp [k0, k1, k2] at hv
   exact hv.1.1
  simp [k3]; decide

theorem txt_split {v w : Val} (hv : mayV v = true) (hw : mayV w = true) {x y : List UInt8} (hx : stopB x = true) (hy : stopB y = true) (h : txt v ++ x = txt w ++ y) : v = w ∧ x = y := by
 obtain ⟨b, l, h1, h2⟩ := txt_head v hv
 obtain ⟨c, m, h3, h4⟩ := txt_head w hw
 have hbc : b = c := by rw [h1, h3] at h; simp only [List.cons_append, List.cons.injEq] at h; exact h.1
 rw [hbc, h4] at h2
 clear h1 h3 h4
 obtain ⟨k, n, s⟩ := v
 obtain ⟨k', n', s'⟩ := w
 unfold mayV at hv hw
 simp only at hv hw h2
 unfold txt at h
 simp only at h
 by_cases a0 : k = 0
 ·subst a0
  have b0 : k' = 0 := by
   by_cases e : k' = 0
   ·exact e
   ·simp [e] at h2; split at h2 <;> (try split at h2) <;> omega
  subst b0
  simp at hv hw h
  obtain ⟨rfl, rfl⟩ := hv; obtain ⟨rfl, rfl⟩ := hw
  exact ⟨rfl, h⟩
 by_cases a1 : k = 1
 ·subst a1
  have b1 : k' = 1 ∧ (n ≠ 0 ↔ n' ≠ 0) := by
   by_cases e0 : k' = 0
   ·simp [e0] at h2; split at h2 <;> omega
   ·by_cases e1 : k' = 1
    ·refine ⟨e1, ?_⟩
     simp [e1] at h2
     by_cases z1 : n = 0 <;> by_cases z2 : n' = 0 <;> simp [z1, z2] at h2 ⊢
    ·by_cases e2 : k' = 2
     ·simp [e2] at h2; split at h2 <;> omega
     ·simp [e0, e1, e2] at h2; split at h2 <;> omega
  obtain ⟨rfl, hz⟩ := b1
  simp at hv hw
  obtain ⟨hv, rfl⟩ := hv; obtain ⟨hw, rfl⟩ := hw
  by_cases z1 : n = 0
  ·have z2 : n' = 0 := by by_cases z : n' = 0; exact z; exact absurd z1 (hz.2 z)
   subst z1; subst z2
   simp at h
   exact ⟨rfl, h⟩
  ·have z2 : n' ≠ 0 := hz.1 z1
   have y1 : n = 1 := by omega
   have y2 : n' = 1 := by omega
   subst y1; subst y2
   simp at h
   exact ⟨rfl, h⟩
 by_cases a2 : k = 2
 ·subst a2
  have b2 : k' = 2 := by
   by_cases e0 : k' = 0
   ·simp [e0] at h2
   ·by_cases e1 : k' = 1
    ·simp [e1] at h2; split at h2 <;> omega
    ·by_cases e2 : k' = 2
     ·exact e2
     ·simp [e0, e1, e2] at h2
  subst b2
  simp at hv hw h
  subst hv; subst hw
  obtain ⟨rfl, h9⟩ := itoa_split hx hy h
  exact ⟨rfl, h9⟩
 ·have a3 : k = 3 := by simp [a0, a1, a2] at hv; exact hv.1.1
  subst a3
  have b3 : k' = 3 := by
   by_cases e0 : k' = 0
   ·simp [e0] at h2
   ·by_cases e1 : k' = 1
    ·simp [e1] at h2; split at h2 <;> omega
    ·by_cases e2 : k' = 2
     ·simp [e2] at h2
     ·simp [e0, e1, e2] at hw; exact hw.1.1
  subst b3
  simp at hv hw h
  obtain ⟨rfl, _⟩ := hv; obtain ⟨rfl, _⟩ := hw
  obtain ⟨rfl, h9⟩ := dbl_split hx hy h
  exact ⟨rfl, h9⟩

theorem may_len {v : Val} (h : mayV v = true) : v.s.length ≤ 1000 := by
 unfold mayV at h
 by_cases k0 : v.k = 0
 ·simp [k0] at h; simp [h.2]
 by_cases k1 : v.k = 1
 ·simp [k1] at h; simp [h.2]
 by_cases k2 : v.k = 2
 ·simp [k2] at h; simp [h]
 ·simp [k0, k1, k2] at h; exact h.2

end Go.Proofs.YtkaljlpbmbfpgaaGreatDoor

set_option linter.unusedVariables false
set_option linter.unusedSimpArgs false
namespace Go.Proofs.YtkaljlpbmbfpgaaGreatDoor
open Go Go.Pu

theorem compareBytes_less : ∀ (a b : List UInt8), Lib.compareBytes a b = if Op.bytesLess a b = true then -1 else if a = b then 0 else 1
 | [], [] => by simp [Lib.compareBytes, Op.bytesLess]
 | [], _ :: _ => by simp [Lib.compareBytes, Op.bytesLess]
 | _ :: _, [] => by simp [Lib.compareBytes, Op.bytesLess]
 | a :: xs, b :: ys => by
  unfold Lib.compareBytes Op.bytesLess
  by_cases h1 : a < b
  ·simp [h1]
  ·by_cases h2 : b < a
   ·have : a ≠ b := fun e => by subst e; exact absurd h2 (UInt8.lt_irrefl a)
    simp [h1, h2, this]
   ·have : a = b := UInt8.le_antisymm (UInt8.not_lt.1 h2) (UInt8.not_lt.1 h1)
    subst this
    simp [h1, compareBytes_less xs ys]

theorem R01_Compare_res (v w : Val) : (m_zal [.i v.k, .i v.n, .s (bs v.s), .i w.k, .i w.n, .s (bs w.s)]).res = some (0, [.i (cmpV v w)]) := by
 simp only [m_zal, cmpV, Cmp.thn, Cmp.cmpI, res_test, res_stop, bs_toList, compareBytes_less]
 by_cases h1 : v.k = w.k
 ·by_cases h2 : v.n = w.n
  ·by_cases h3 : Op.bytesLess v.s w.s = true
   ·simp [h1, h2, h3]
   ·by_cases h4 : v.s = w.s
    ·rw [h4] at h3 ⊢
     simp [h1, h2, h3]
    ·simp [h1, h2, h3, h4]
  ·by_cases h3 : v.n < w.n
   ·simp [h1, h2, h3]
   ·have h4 : w.n < v.n := by omega
    simp [h1, h2, h3, h4]
 ·by_cases h3 : v.k < w.k
  ·simp [h1, h3]
  ·have h4 : w.k < v.k := by omega
   simp [h1, h3, h4]

/-! rows -/

theorem row_May_res (r : List Val) (hr : okR r) : (m_zp [.l (re r)]).res = some (0, [.b (mayR r)]) := by
 have h0 := hr.1
 have hl := loop_all r (rd := rd_zp_104_2) (fun i => [.l (re r), .i r.length, .i (i : Nat)]) mayV 0 1 (fun i => [.i (i : Nat)]) [] (by simp [rd_zp_104_2]) (by
  intro i h
  have := value_May_res r[i]
  by_cases hm : mayV r[i] = true <;> simp [rd_zp_104_2, re, el_map _ _ h, h, w64_succ (i := i) (by omega), Val.e, this, hm])
 simp only [m_zp, mayR, re, ln_map, res_test, res_stop] at *
 by_cases h40 : r.length ≤ 40
 ·have h40' : (r.length : Int) ≤ 40 := by omega
  rcases hl with ⟨h1, h2⟩ | ⟨h1, i, h, _, _, h2⟩
  ·simp only [Int.natCast_zero] at h2
   simp [h40, h40', h1, h2]
  ·simp only [Int.natCast_zero] at h2
   have : (0 : Int) ≤ (i : Int) := by omega
   simp [h40, h40', h1, h2, this]
 ·have h40' : ¬ (r.length : Int) ≤ 40 := by omega
  simp [h40, h40']

theorem R02_May_res (r : List Val) (hr : okR r) : (m_zaj [.l (re r)]).res = some (0, [.b (r.all mayV)]) := by
 have h0 := hr.1
 have hl := loop_all' r (rd := rd_zaj_82_2) (fun i => [.l (re r), .i (i : Nat)]) mayV 0 1 [.b false] [] (by simp [rd_zaj_82_2, re]) (by
  intro i h
  have := R01_May_res r[i]
  by_cases hm : mayV r[i] = true <;> simp [rd_zaj_82_2, re, el_map _ _ h, h, w64_succ (i := i) (by omega), Val.e, this, hm])
 simp only [Int.natCast_zero] at hl
 by_cases h1 : r.all mayV = true
 ·simp [m_zaj, hl, h1]
 ·have h1' : r.all mayV = false := by simpa using h1
  simp [m_zaj, hl, h1']

theorem R04_May_res (r : List Val) (hr : okR r) : (m_zak [.l (re r)]).res = some (0, [.b (mayR r)]) := by
 have := R02_May_res r hr
 by_cases h40 : r.length ≤ 40
 ·have h40' : (r.length : Int) ≤ 40 := by omega
  simp only [re] at this ⊢
  simp [m_zak, mayR, this, h40, h40']
 ·have h40' : ¬ (r.length : Int) ≤ 40 := by omega
  simp [m_zak, mayR, re, h40, h40']

end Go.Proofs.YtkaljlpbmbfpgaaGreatDoor

set_option linter.unusedVariables false
set_option linter.unusedSimpArgs false
namespace Go.Proofs.YtkaljlpbmbfpgaaGreatDoor
open Go Go.Pu

/-- how two lists compare, by the first place where they do not meet -/
theorem cmpR_at : ∀ (a b : List Val) (i : Nat) (hi : i ≤ a.length) (hj : i ≤ b.length), (∀ j (h : j < i), a[j] = b[j]) →
  cmpR a b = cmpR (a.drop i) (b.drop i)
 | a, b, 0, _, _, _ => by simp
 | [], b, i + 1, h, _, _ => by simp at h
 | _ :: _, [], i + 1, _, h, _ => by simp at h
 | x :: a, y :: b, i + 1, h1, h2, h => by
  have h0 : x = y := h 0 (by omega)
  subst h0
  have := cmpR_at a b i (by simpa using h1) (by simpa using h2) fun j hj => by simpa using h (j + 1) (by omega)
  simp only [cmpR, Cmp.lstC, cV.self, Cmp.thn] at this ⊢
  simpa using this

theorem cmpR_stop {a b : List Val} {i : Nat} (hi : i < a.length) (hj : i < b.length) (h : ∀ j (h : j < i), a[j] = b[j]) (hne : cmpV a[i] b[i] ≠ 0) : cmpR a b = cmpV a[i] b[i] := by
 rw [cmpR_at a b i (by omega) (by omega) h, List.drop_eq_getElem_cons hi, List.drop_eq_getElem_cons hj]
 simp only [cmpR, Cmp.lstC, Cmp.thn]
 rw [if_pos (by simpa using hne)]

theorem cmpR_end {a b : List Val} (h : ∀ j (h1 : j < a.length) (h2 : j < b.length), a[j] = b[j]) : cmpR a b = if a.length < b.length then -1 else if b.length < a.length then 1 else 0 := by
 by_cases hl : a.length ≤ b.length
 ·rw [cmpR_at a b a.length (Nat.le_refl _) hl fun j hj => h j hj (by omega), List.drop_length]
  by_cases he : a.length < b.length
  ·rw [if_pos he, List.drop_eq_getElem_cons he]; rfl
  ·have : b.drop a.length = [] := List.drop_eq_nil_of_le (by omega)
   rw [if_neg he, if_neg (by omega), this]; rfl
 ·rw [cmpR_at a b b.length (by omega) (Nat.le_refl _) fun j hj => h j (by omega) hj, List.drop_length, if_neg (by omega), if_pos (by omega), List.drop_eq_getElem_cons (by omega)]; rfl

theorem R02_Compare_res (a b : List Val) (ha : a.length ≤ 4398046511104) : (m_zam [.l (re a), .l (re b)]).res = some (0, [.i (cmpR a b)]) := by
 have hl := loop_ix (min a.length b.length) (rd := rd_zam_50_2) (fun i => [.l (re a), .l (re b), .i (i : Nat)]) (fun i => cmpV (a.getD i default) (b.getD i default) == 0) 0 1
  (fun i => [.i (cmpV (a.getD i default) (b.getD i default))]) [.l (re a), .l (re b)] (by
   by_cases h : a.length ≤ b.length
   ·simp [rd_zam_50_2, Nat.min_eq_left h]
   ·have : ¬ ((b.length : Int) < a.length ∧ False) := by simp
    simp [rd_zam_50_2, Nat.min_eq_right (Nat.le_of_not_le h)]) (by
  intro i h _
  have h1 : i < a.length := by omega
  have h2 : i < b.length := by omega
  have := R01_Compare_res a[i] b[i]
  by_cases hm : cmpV a[i] b[i] = 0 <;> simp [rd_zam_50_2, el_re _ h1, el_re _ h2, h1, h2, w64_succ (i := i) (by omega), Val.e, this, hm, List.getD])
 simp only [Int.natCast_zero] at hl
 rcases hl with ⟨h1, h2⟩ | ⟨i, h1, h2, h3, h4⟩
 ·have he : ∀ j (h1 : j < a.length) (h2 : j < b.length), a[j] = b[j] := fun j j1 j2 => by
   have := h1 j (by omega)
   simp only [List.getD, List.getElem?_eq_getElem j1, List.getElem?_eq_getElem j2, Option.getD_some, beq_iff_eq] at this
   exact (cV.zero _ _).1 this
  rw [cmpR_end he]
  by_cases c1 : a.length < b.length
  ·simp [m_zam, h2, c1]
  ·by_cases c2 : b.length < a.length <;> simp [m_zam, h2, c1, c2]
 ·have i1 : i < a.length := by omega
  have i2 : i < b.length := by omega
  have he : ∀ j (h : j < i), a[j] = b[j] := fun j hj => by
   have := h3 j hj
   have j1 : j < a.length := by omega
   have j2 : j < b.length := by omega
   simp only [List.getD, List.getElem?_eq_getElem j1, List.getElem?_eq_getElem j2, Option.getD_some, beq_iff_eq] at this
   exact (cV.zero _ _).1 this
  simp only [List.getD, List.getElem?_eq_getElem i1, List.getElem?_eq_getElem i2, Option.getD_some, beq_eq_false_iff_ne, ne_eq] at h2 h4
  rw [cmpR_stop i1 i2 he h2]
  simp [m_zam, h4]

theorem key_Compare_res (a b : List Val) (ha : a.length ≤ 4398046511104) : (m_zd [.l (re a), .l (re b)]).res = some (0, [.i (cmpR a b)]) := by
 have hl := loop_ix a.length (rd := rd_zd_105_2) (fun i => [.l (re a), .l (re b), .l (re a), .i a.length, .i (i : Nat)]) (fun i => decide (i < b.length) && cmpV (a.getD i default) (b.getD i default) == 0) 0 1
  (fun i => [.i (if i < b.length then cmpV (a.getD i default) (b.getD i default) else 1)]) [.l (re a), .l (re b)] (by
   simp [rd_zd_105_2]) (by
  intro i h1 _
  by_cases h2 : i < b.length
  ·have := value_Compare_res a[i] b[i]
   have h3 : ¬ (b.length : Int) ≤ (i : Int) := by omega
   by_cases hm : cmpV a[i] b[i] = 0 <;> simp [rd_zd_105_2, el_re _ h1, el_re _ h2, h1, h2, h3, w64_succ (i := i) (by omega), Val.e, this, hm, List.getD]
  ·have h3 : (b.length : Int) ≤ (i : Int) := by omega
   simp [rd_zd_105_2, h1, h2, h3])
 simp only [Int.natCast_zero] at hl
 rcases hl with ⟨h1, h2⟩ | ⟨i, i1, h2, h3, h4⟩
 ·have hle : a.length ≤ b.length := by
   rcases Nat.lt_or_ge b.length a.length with h | h
   ·have := h1 b.length h; simp at this
   ·exact h
  have he : ∀ j (h1 : j < a.length) (h2 : j < b.length), a[j] = b[j] := fun j j1 j2 => by
   have := h1 j (by omega)
   simp only [List.getD, List.getElem?_eq_getElem j1, List.getElem?_eq_getElem j2, Option.getD_some, Bool.and_eq_true, beq_iff_eq] at this
   exact (cV.zero _ _).1 this.2
  rw [cmpR_end he]
  by_cases c1 : a.length < b.length
  ·simp [m_zd, h2, c1]
  ·have c2 : ¬ b.length < a.length := by omega
   simp [m_zd, h2, c1, c2]
 ·have he : ∀ j (h : j < i) (j2 : j < b.length), a[j] = b[j] := fun j hj j2 => by
   have := h3 j hj
   have j1 : j < a.length := by omega
   simp only [List.getD, List.getElem?_eq_getElem j1, List.getElem?_eq_getElem j2, Option.getD_some, Bool.and_eq_true, beq_iff_eq] at this
   exact (cV.zero _ _).1 this.2
  have hm : (m_zd [.l (re a), .l (re b)]).res = some (0, [.i (if i < b.length then cmpV (a.getD i default) (b.getD i default) else 1)]) := by
   simp [m_zd, h4]
  rw [hm]
  by_cases i2 : i < b.length
  ·rw [if_pos i2]
   simp only [List.getD, List.getElem?_eq_getElem i1, List.getElem?_eq_getElem i2, Option.getD_some, i2, decide_true, Bool.true_and, beq_eq_false_iff_ne, ne_eq] at h2 ⊢
   rw [cmpR_stop i1 i2 (fun j hj => he j hj (by omega)) h2]
  ·rw [if_neg i2]
   have hb : b.length = i := by
    rcases Nat.lt_or_ge b.length i with h | h
    ·have := h3 b.length h; simp at this
    ·omega
   have : cmpR a b = 1 := by
    have hbn : b.drop i = [] := List.drop_eq_nil_of_le (by omega)
    rw [cmpR_at a b i (by omega) (by omega) fun j hj => he j hj (by omega), List.drop_eq_getElem_cons i1, hbn]; rfl
   rw [this]

theorem row_Compare_res (a b : List Val) (ha : a.length ≤ 4398046511104) : (m_ze [.l (re a), .l (re b)]).res = some (0, [.i (cmpR a b)]) := by
 simp [m_ze, key_Compare_res a b ha]

end Go.Proofs.YtkaljlpbmbfpgaaGreatDoor

set_option linter.unusedVariables false
set_option linter.unusedSimpArgs false
namespace Go.Proofs.YtkaljlpbmbfpgaaGreatDoor
open Go Go.Pu

theorem wrap_u64 {n : Int} (h1 : 0 ≤ n) (h2 : n < 18446744073709551616) : IntKind.u64.wrap n = n := by
 rw [IntKind.wrap_u64]; omega

theorem mid_eq {i j : Nat} (hi : i < 4611686018427387904) (hj : j < 4611686018427387904) :
  w64 (Int.fdiv (IntKind.wrap IntKind.u64 (w64 ((i : Int) + (j : Int)))) 2) = (((i + j) / 2 : Nat) : Int) := by
 have e1 : w64 ((i : Int) + (j : Int)) = (i : Int) + (j : Int) := w64_eq (by omega) (by omega)
 rw [e1, wrap_u64 (by omega) (by omega)]
 have : Int.fdiv ((i : Int) + (j : Int)) 2 = (((i + j) / 2 : Nat) : Int) := by
  rw [Int.fdiv_eq_ediv_of_nonneg _ (by decide)]; omega
 rw [this, w64_eq (by omega) (by omega)]

def shortR (r : List Val) : Bool := r.all (fun v => decide (v.s.length ≤ 1000)) && decide (r.length ≤ 40)

theorem R02_Short_res {r : List Val} (hr : okR r) : (m_zbb [.l (re r)]).res = some (0, [.b (shortR r)]) := by
 have h0 := hr.1
 have hl := loop_all' r (rd := rd_zbb_38_2) (fun i => [.l (re r), .i (i : Nat)]) (fun v => decide (v.s.length ≤ 1000)) 0 1 [.b false] [.l (re r)] (by simp [rd_zbb_38_2]) (by
  intro i h
  have h5 : ((1000 : Int) < (r[i].s.length : Int)) ↔ ¬ r[i].s.length ≤ 1000 := by omega
  by_cases hm : r[i].s.length ≤ 1000 <;> simp [rd_zbb_38_2, el_re _ h, h, w64_succ (i := i) (by omega), Val.e, h5, hm])
 simp only [Int.natCast_zero] at hl
 have h40 : ((r.length : Int) ≤ 40) ↔ r.length ≤ 40 := by omega
 by_cases h1 : r.all (fun v => decide (v.s.length ≤ 1000)) = true
 ·rw [if_pos h1] at hl
  simp [m_zbb, hl, shortR, h1, h40]
 ·rw [if_neg h1] at hl
  have h1' : r.all (fun v => decide (v.s.length ≤ 1000)) = false := by simpa using h1
  simp [m_zbb, hl, shortR, h1']

end Go.Proofs.YtkaljlpbmbfpgaaGreatDoor

set_option linter.unusedVariables false
set_option linter.unusedSimpArgs false
namespace Go.Proofs.YtkaljlpbmbfpgaaGreatDoor
open Go Go.Pu

theorem re_app (a b : List Val) : re (a ++ b) = re a ++ re b := List.map_append
theorem re_len (a : List Val) : (re a).length = a.length := List.length_map _
theorem take_one {α : Type} (l : List α) {i : Nat} (h : i < l.length) : l.take (i + 1) = l.take i ++ [l[i]] := by
 rw [List.take_add_one, List.getElem?_eq_getElem h]; rfl

/-! rows, joined -/

def reR (r : List Val) : List PV := [.lst 39 (re r)]
def lens (l : List (List Val)) : Nat := (l.map List.length).sum

theorem lens_take (l : List (List Val)) {i : Nat} (h : i < l.length) : lens (l.take (i + 1)) = lens (l.take i) + l[i].length := by
 unfold lens
 rw [take_one l h, List.map_append, List.sum_append]; rfl
theorem lens_le (l : List (List Val)) (i : Nat) : lens (l.take i) ≤ lens l := by
 have : lens l = lens (l.take i) + lens (l.drop i) := by
  conv => lhs; rw [← List.take_append_drop i l]
  unfold lens
  rw [List.map_append, List.sum_append]
 omega
theorem flat_len (l : List (List Val)) : l.flatten.length = lens l := by simp [lens, List.length_flatten]

theorem Concat_res (l : List (List Val)) (hl : l.length ≤ 4398046511104) (hs : lens l ≤ 1099511627776) : (m_zz [.l (l.map reR)]).res = some (0, [.l (re l.flatten)]) := by
 have h1 := loop_acc (rd := rd_zz_70_3) l.length (fun i => [.l (l.map reR), .i (lens (l.take i) : Nat), .l (l.map reR), .i (l.length : Nat), .i (i : Nat)]) (some (0, [.l (l.map reR), .i (lens l : Nat)]))
  (lres_stop (by simp [rd_zz_70_3])) (by
  intro i h
  have e1 := lens_take l h
  have e2 := lens_le l (i + 1)
  have e3 : w64 ((lens (l.take i) : Int) + (l[i].length : Int)) = ((lens (l.take (i + 1)) : Nat) : Int) := by rw [w64_eq (by omega) (by omega)]; omega
  have e4 : ¬ ((lens (l.take (i + 1)) : Nat) : Int) < 0 := by omega
  simp only [rd_zz_70_3, rt_test, rt_next, el_map _ _ h, reR, cL_0, ln_re, ln_map, inR_cast, Int.ofNat_lt, h, decide_true, if_true, e3, e4, decide_false, Bool.false_eq_true, if_false, w64_succ (i := i) (by omega)])
 have h2 := loop_acc (rd := rd_zz_70_11) l.length (fun i => [.l (l.map reR), .i (l.length : Nat), .i (i : Nat), .l (re (l.take i).flatten)]) (some (0, [.l (re l.flatten)]))
  (lres_stop (by simp [rd_zz_70_11])) (by
  intro i h
  have e1 := lens_take l h
  have e2 := lens_le l (i + 1)
  have e3 : ((re (l.take i).flatten).length + (re l[i]).length) * 32 ≤ 140737488355328 := by rw [re_len, re_len, flat_len]; omega
  have e4 : re (l.take (i + 1)).flatten = re (l.take i).flatten ++ re l[i] := by rw [take_one l h, List.flatten_append, re_app]; simp
  simp only [rd_zz_70_11, rt_test, rt_next, el_map _ _ h, reR, cL_0, ln_map, inR_cast, Int.ofNat_lt, h, decide_true, if_true, e3, e4, w64_succ (i := i) (by omega)])
 simp only [List.take_zero, Int.natCast_zero] at h1 h2
 rw [show (lens [] : Int) = 0 from rfl] at h1
 rw [show re ([] : List (List Val)).flatten = [] from rfl] at h2
 have e5 : decide ((0 : Int) ≤ (lens l : Int) ∧ (lens l : Int) * 32 ≤ 140737488355328) = true := by rw [decide_eq_true_eq]; omega
 simp only [m_zz, ln_map, h1, ok_some', out_some, res_test, res_stop, uI_s, uI_0, uL_0, e5, h2, beq_self_eq_true, if_true]

/-! texts -/

/-- what stands behind the first value -/
def tlT (r : List Val) : List UInt8 := r.flatMap fun v => 44 :: 32 :: txt v
def bodyT : List Val → List UInt8
 | [] => []
 | v :: r => txt v ++ tlT r
def txtR (r : List Val) : List UInt8 := 40 :: (bodyT r ++ [41])

theorem join_body (r : List Val) : Lib.join (r.map txt) [44, 32] = bodyT r := by
 cases r with
 | nil => rfl
 | cons v r =>
  rw [List.map_cons, Lib.join_cons]
  show _ = txt v ++ tlT r
  unfold tlT Lib.joinTail
  rw [List.map_map, List.flatMap_def]
  rfl

theorem nDig_le (u : Nat) (h : u < 18446744073709551616) : Lib.nDigits u ≤ 20 := by
 rcases Nat.lt_or_ge 20 (Lib.nDigits u) with h1 | h1
 ·exfalso
  have key : ∀ k u, u < 10 ^ (k + 1) → Lib.nDigits u ≤ k + 1 := by
   intro k
   induction k with
   | zero => intro u hu; rw [Lib.nDigits_small (by simpa using hu)]; omega
   | succ k ih =>
    intro u hu
    by_cases h9 : u < 10
    ·rw [Lib.nDigits_small h9]; omega
    ·rw [Lib.nDigits_big h9]
     have := ih (u / 10) (by rw [Nat.pow_succ] at hu; omega)
     omega
  have := key 19 u (by have : (10 : Nat) ^ (19 + 1) = 100000000000000000000 := by decide
                       omega)
  omega
 ·exact h1

theorem itoa_len {n : Int} (h : i64 n) : (Lib.itoa n).length ≤ 21 := by
 unfold i64 at h
 unfold Lib.itoa
 split
 ·rw [List.length_cons, Lib.decDigits_length]
  have := nDig_le n.natAbs (by omega)
  omega
 ·rw [Lib.decDigits_length]
  have := nDig_le n.toNat (by omega)
  omega

theorem txt_len {v : Val} (hv : v.ok) : (txt v).length ≤ 2 * v.s.length + 30 := by
 have h1 := dbl_len v.s
 have h2 := itoa_len hv.2.1
 unfold txt
 split
 ·simp
 ·split
  ·split <;> simp
  ·split
   ·omega
   ·split
    ·simp; omega
    ·simp

theorem tlT_len {r : List Val} {m : Nat} (h : ∀ v ∈ r, (txt v).length ≤ m) : (tlT r).length ≤ r.length * (m + 2) := by
 induction r with
 | nil => simp [tlT]
 | cons v r ih =>
  have h1 := ih fun w hw => h w (List.mem_cons_of_mem _ hw)
  have h2 := h v (List.mem_cons_self ..)
  have e : tlT (v :: r) = (44 :: 32 :: txt v) ++ tlT r := rfl
  rw [e, List.length_append, List.length_cons, List.length_cons, List.length_cons, Nat.add_mul, Nat.one_mul]
  omega
theorem body_len {r : List Val} {m : Nat} (h : ∀ v ∈ r, (txt v).length ≤ m) : (bodyT r).length ≤ r.length * (m + 2) := by
 cases r with
 | nil => simp [bodyT]
 | cons v r =>
  have h1 := tlT_len (r := r) fun w hw => h w (List.mem_cons_of_mem _ hw)
  have h2 := h v (List.mem_cons_self ..)
  unfold bodyT
  rw [List.length_append, List.length_cons, Nat.add_mul, Nat.one_mul]
  omega

def okT (r : List Val) : Prop := (∀ v ∈ r, v.ok) ∧ r.length ≤ 200 ∧ ∀ v ∈ r, v.s.length ≤ 100000

theorem okT_len {r : List Val} (h : okT r) : (bodyT r).length ≤ 40006400 := by
 have := body_len (r := r) (m := 200030) fun v hv => by
  have h1 := txt_len (h.1 v hv)
  have h2 := h.2.2 v hv
  omega
 have h3 := Nat.mul_le_mul_right 200032 h.2.1
 omega

theorem rowText_res (r : List Val) (hr : okT r) : (m_zy [.l (re r)]).res = some (0, [.s (bs (txtR r))]) := by
 have hl := hr.2.1
 let f := fun v : Val => [pS (bs (txt v))]
 have h1 := loop_acc (rd := rd_zy_45_3) r.length (fun i => [.l (re r), .i (r.length : Nat), .i (i : Nat), .l ((r.take i).map f)]) (some (0, [.l (r.map f)]))
  (lres_stop (by simp [rd_zy_45_3])) (by
  intro i h
  have hm := List.getElem_mem h
  have ht := Text_res r[i] (hr.1 _ hm) (hr.2.2 _ hm)
  have e1 : (((r.take i).map f).length + 1) * 16 ≤ 140737488355328 := by simp; omega
  have e2 : (r.take (i + 1)).map f = (r.take i).map f ++ [[pS (bs (txt r[i]))]] := by rw [take_one r h, List.map_append]; rfl
  simp only [rd_zy_45_3, rt_test, rt_next, re, el_map _ _ h, Val.e, cI_p, cI_s, cS_s, cS_p, ln_map, inR_cast, Int.ofNat_lt, h, decide_true, if_true, ht, ok_some', out_some, uS_0, beq_self_eq_true, e1, e2, w64_succ (i := i) (by omega)])
 simp only [List.take_zero, Int.natCast_zero, List.map_nil] at h1
 have e0 : ({ data := #[(44 : UInt8), (32 : UInt8)] } : ByteArray) = bs [44, 32] := rfl
 have em : ((r.map f).map fun e => (cS e 0).data.toList) = r.map txt := by rw [List.map_map]; rfl
 have ej : joinB (r.map f) (bs [44, 32]) = bs (bodyT r) := by
  unfold joinB
  rw [em, show (bs [44, 32]).data.toList = [44, 32] from rfl, join_body]
  rfl
 have hb := okT_len hr
 have eo : joinOk (r.map f) (bs [44, 32]) = true := by
  unfold joinOk
  rw [decide_eq_true_eq, em, show (bs [44, 32]).data.toList = [44, 32] from rfl, join_body, List.length_map]
  exact ⟨by omega, by omega⟩
 have e3 : ({ data := #[(40 : UInt8)] } : ByteArray) = bs [40] := rfl
 have e4 : ({ data := #[(41 : UInt8)] } : ByteArray) = bs [41] := rfl
 have g1 : decide (1 + (bodyT r).length ≤ 9223372036854775807) = true := by rw [decide_eq_true_eq]; omega
 have g2 : decide (([40] ++ bodyT r).length + 1 ≤ 9223372036854775807) = true := by rw [decide_eq_true_eq]; simp; omega
 simp only [m_zy, ln_re, h1, ok_some', out_some, res_test, res_stop, uL_0, e0, e3, e4, ej, eo, beq_self_eq_true, if_true, bs_size, bs_app, g1, g2, txtR]
 simp

/-! unlike rows have unlike texts -/

theorem txt_head2 (v : Val) (hv : mayV v = true) : ∃ b l, txt v = b :: l ∧ b ≠ 41 := by
 unfold txt
 by_cases k0 : v.k = 0
 ·simp only [k0, if_true]; exact ⟨_, _, rfl, by decide⟩
 by_cases k1 : v.k = 1
 ·by_cases n0 : v.n = 0
  ·simp [k1, n0]
  ·simp [k1, n0]
 by_cases k2 : v.k = 2
 ·obtain ⟨b, l, h1, h2⟩ := itoa_head v.n
  simp only [k2, h1]
  refine ⟨b, l, by simp, ?_⟩
  rcases h2 with rfl | h2
  ·decide
  ·rintro rfl
   exact absurd h2 (by decide)
 ·have k3 : v.k = 3 := by
   unfold mayV at hv
   simp [k0, k1, k2] at hv
   exact hv.1.1
  simp [k3]

theorem tl_stop (r : List Val) (x : List UInt8) : stopB (tlT r ++ 41 :: x) = true := by
 cases r with
 | nil => rfl
 | cons v r => rfl

theorem tl_split : ∀ {a b : List Val} {x y : List UInt8}, a.all mayV = true → b.all mayV = true → tlT a ++ 41 :: x = tlT b ++ 41 :: y → a = b ∧ x = y
 | [], [], x, y, _, _, h => by simp only [tlT, List.flatMap_nil, List.nil_append, List.cons.injEq, true_and] at h; exact ⟨rfl, h⟩
 | [], w :: b, x, y, _, _, h => by simp [tlT] at h
 | v :: a, [], x, y, _, _, h => by simp [tlT] at h
 | v :: a, w :: b, x, y, ha, hb, h => by
  simp only [List.all_cons, Bool.and_eq_true] at ha hb
  have e1 : ∀ (u : Val) (l : List Val), tlT (u :: l) = 44 :: 32 :: (txt u ++ tlT l) := fun u l => rfl
  rw [e1, e1] at h
  simp only [List.cons_append, List.cons.injEq, true_and, List.append_assoc] at h
  obtain ⟨rfl, h9⟩ := txt_split ha.1 hb.1 (tl_stop _ _) (tl_stop _ _) h
  obtain ⟨rfl, h8⟩ := tl_split ha.2 hb.2 h9
  exact ⟨rfl, h8⟩

theorem txtR_split {a b : List Val} {x y : List UInt8} (ha : a.all mayV = true) (hb : b.all mayV = true) (h : txtR a ++ x = txtR b ++ y) : a = b ∧ x = y := by
 unfold txtR at h
 simp only [List.cons_append, List.cons.injEq, true_and, List.append_assoc, List.nil_append] at h
 cases a with
 | nil =>
  cases b with
  | nil => simp only [bodyT, List.nil_append, List.cons.injEq, true_and] at h; exact ⟨rfl, h⟩
  | cons w b =>
   simp only [List.all_cons, Bool.and_eq_true] at hb
   obtain ⟨c, l, e1, e2⟩ := txt_head2 w hb.1
   simp only [bodyT, e1, List.nil_append, List.cons_append, List.cons.injEq] at h
   exact absurd h.1.symm e2
 | cons v a =>
  simp only [List.all_cons, Bool.and_eq_true] at ha
  cases b with
  | nil =>
   obtain ⟨c, l, e1, e2⟩ := txt_head2 v ha.1
   simp only [bodyT, e1, List.nil_append, List.cons_append, List.cons.injEq] at h
   exact absurd h.1 e2
  | cons w b =>
   simp only [List.all_cons, Bool.and_eq_true] at hb
   simp only [bodyT, List.append_assoc] at h
   obtain ⟨rfl, h9⟩ := txt_split ha.1 hb.1 (tl_stop _ _) (tl_stop _ _) h
   obtain ⟨rfl, h8⟩ := tl_split ha.2 hb.2 h9
   exact ⟨rfl, h8⟩

end Go.Proofs.YtkaljlpbmbfpgaaGreatDoor

set_option linter.unusedVariables false
set_option linter.unusedSimpArgs false
namespace Go.Proofs.YtkaljlpbmbfpgaaGreatDoor
open Go Go.Pu

theorem bs_ext (l : List UInt8) (i j : Nat) : (bs l).extract i j = bs ((l.take j).drop i) := by
 apply ByteArray.ext
 rw [ByteArray.data_extract]
 apply Array.ext'
 simp [bs, List.drop_take]

theorem tlT_app (a b : List Val) : tlT (a ++ b) = tlT a ++ tlT b := by simp [tlT]
theorem body_app {a b : List Val} (ha : a ≠ []) (hb : b ≠ []) : bodyT (a ++ b) = bodyT a ++ (44 :: 32 :: bodyT b) := by
 cases a with
 | nil => exact absurd rfl ha
 | cons v a => cases b with
  | nil => exact absurd rfl hb
  | cons w b =>
   show txt v ++ tlT (a ++ w :: b) = _
   rw [tlT_app]
   simp [bodyT, tlT]

/-! what fits -/

def kE (k : Int) : List PV := [pI k]
theorem getD_at {α : Type} {l : List α} {i : Nat} (h : i < l.length) (d : α) : l.getD i d = l[i] := by rw [List.getD, List.getElem?_eq_getElem h]; rfl

end Go.Proofs.YtkaljlpbmbfpgaaGreatDoor

set_option linter.unusedVariables false
set_option linter.unusedSimpArgs false
namespace Go.Proofs.YtkaljlpbmbfpgaaGreatDoor
open Go Go.Pu

def pickOk (r : List Val) (cs : List Int) : Bool := cs.all fun c => decide (0 ≤ c ∧ c < r.length)
def pickR (r : List Val) (cs : List Int) : List Val := cs.map fun c => r.getD c.toNat nul

theorem Pick_res (r : List Val) (cs : List Int) (hc : cs.length ≤ 1000000) : (m_zu [.l (re r), .l (cs.map kE)]).res = some (0, [.b (pickOk r cs), .l (if pickOk r cs = true then re (pickR r cs) else [])]) := by
 have h := loop_all' cs (rd := rd_zu_44_3) (fun i => [.l (re r), .l (cs.map kE), .i (cs.length : Nat), .i (i : Nat), .l (re (pickR r (cs.take i)))]) (fun c => decide (0 ≤ c ∧ c < r.length)) 0 1 [.b false] [.l (re (pickR r cs))]
  (by simp [rd_zu_44_3]) (by
  intro i h
  have e1 : ((re (pickR r (cs.take i))).length + 1) * 32 ≤ 140737488355328 := by rw [re_len]; simp [pickR]; omega
  simp only [rd_zu_44_3, rt_test, rt_stop, rt_next, el_map _ _ h, kE, cI_p, ln_map, ln_re, inR_cast, Int.ofNat_lt, h, decide_true, if_true, e1, w64_succ (i := i) (by omega)]
  by_cases c0 : cs[i] < 0
  ·have : ¬ (0 ≤ cs[i] ∧ cs[i] < (r.length : Int)) := by omega
   simp [c0, this]
  ·by_cases c1 : cs[i] ≥ (r.length : Int)
   ·have : ¬ (0 ≤ cs[i] ∧ cs[i] < (r.length : Int)) := by omega
    simp only [c0, c1, this, decide_true, decide_false, Bool.false_eq_true, if_false, if_true]
   ·have h3 : 0 ≤ cs[i] ∧ cs[i] < (r.length : Int) := by omega
    have hk : cs[i].toNat < r.length := by omega
    have e2 : inR cs[i] (r.length : Int) = true := inR_iff.2 h3
    have e3 : (el (re r) cs[i]) = Val.e r[cs[i].toNat] := by
     unfold el re
     rw [List.getD, List.getElem?_map, List.getElem?_eq_getElem hk]
     rfl
    have e4 : re (pickR r (cs.take (i + 1))) = re (pickR r (cs.take i)) ++ [[pI r[cs[i].toNat].k, pI r[cs[i].toNat].n, pS (bs r[cs[i].toNat].s)]] := by
     unfold pickR
     rw [take_one cs h, List.map_append, re_app]
     simp only [List.map_cons, List.map_nil, getD_at hk]
     rfl
    simp only [c0, c1, decide_false, Bool.false_eq_true, if_false, e2, if_true, e3, Val.e, cI_p, cI_s, cS_s, cS_p, e4, decide_eq_true h3])
 simp only [List.take_zero, Int.natCast_zero] at h
 rw [show re (pickR r []) = [] from rfl] at h
 unfold pickOk at *
 by_cases e : (cs.all fun c => decide (0 ≤ c ∧ c < (r.length : Int))) = true
 ·rw [if_pos e] at h
  simp only [m_zu, ln_map, h, ok_some', out_some, res_test, res_stop, uL_0, e, show ((0 : Nat) == 1) = false from rfl, Bool.false_eq_true, if_false, beq_self_eq_true, if_true]
 ·rw [if_neg e] at h
  simp only [m_zu, ln_map, h, ok_some', out_some, res_test, res_stop, uB_0, beq_self_eq_true, if_true, e, Bool.false_eq_true, if_false]

/-! sorted rows -/

end Go.Proofs.YtkaljlpbmbfpgaaGreatDoor

set_option linter.unusedVariables false
set_option linter.unusedSimpArgs false
namespace Go.Proofs.YtkaljlpbmbfpgaaGreatDoor
open Go Go.Pu

theorem sum_may {l : List Cnt} (hr : ∀ c ∈ l, mayR c.row = true) (hn : absN l ≤ 1000000000) : mayB (sumB l) = true :=
 (sumB_may hr).2 fun c hc => by
  have h1 := sumB_n hc
  have h2 := cnt_abs l c.row
  exact fitsN_iff.2 (by omega)

theorem app_row {A B : List Cnt} (hA : mayB A = true) (hB : mayB B = true) : ∀ c ∈ A ++ B, mayR c.row = true := fun c hc => by
 rcases List.mem_append.1 hc with hc | hc
 ·exact mayB_row hA hc
 ·exact mayB_row hB hc

theorem both_may {A B : List Cnt} (hA : mayB A = true) (hB : mayB B = true) (h : absN A + absN B ≤ 1000000000) : mayB (sumB (A ++ B)) = true :=
 sum_may (app_row hA hB) (by rw [absN_app]; exact h)

theorem mayC {b : List Cnt} (h : mayB b = true) : canon b := mayB_canon h

/-! picks -/

def pickC (cs : List Int) (c : Cnt) : List Cnt := if pickOk c.row cs = true ∧ (pickR c.row cs).length ≤ 40 then [⟨pickR c.row cs, c.n⟩] else []
def pickL (cs : List Int) (B : List Cnt) : List Cnt := B.flatMap (pickC cs)
def pickG (cs : List Int) (r q : List Val) : Int := if (pickOk q cs = true ∧ (pickR q cs).length ≤ 40) ∧ pickR q cs = r then 1 else 0

theorem pick_cnt (cs : List Int) (r : List Val) (B : List Cnt) : cnt (pickL cs B) r = lin (pickG cs r) B := by
 induction B with
 | nil => rfl
 | cons c B ih =>
  have e : pickL cs (c :: B) = pickC cs c ++ pickL cs B := rfl
  rw [e, cnt_app, ih, lin]
  congr 1
  unfold pickC pickG
  by_cases h1 : pickOk c.row cs = true ∧ (pickR c.row cs).length ≤ 40
  ·by_cases h2 : pickR c.row cs = r
   ·rw [if_pos h1, if_pos ⟨h1, h2⟩, cnt_cons, if_pos h2]; simp
   ·rw [if_pos h1, if_neg fun h => h2 h.2, cnt_cons, if_neg h2]; simp
  ·rw [if_neg h1, if_neg fun h => h1 h.1]; simp

theorem pick_absN (cs : List Int) (B : List Cnt) : absN (pickL cs B) ≤ absN B := by
 induction B with
 | nil => exact Nat.le_refl _
 | cons c B ih =>
  have e : pickL cs (c :: B) = pickC cs c ++ pickL cs B := rfl
  rw [e, absN_app]
  have h1 : absN (pickC cs c) ≤ c.n.natAbs := by
   unfold pickC
   split
   ·simp [absN]
   ·simp [absN]
  have h2 : absN (c :: B) = c.n.natAbs + absN B := rfl
  omega

theorem pick_len (cs : List Int) (B : List Cnt) : (pickL cs B).length ≤ B.length := by
 induction B with
 | nil => exact Nat.le_refl _
 | cons c B ih =>
  have e : pickL cs (c :: B) = pickC cs c ++ pickL cs B := rfl
  rw [e, List.length_append, List.length_cons]
  have h1 : (pickC cs c).length ≤ 1 := by unfold pickC; split <;> simp
  omega

theorem pick_row {cs : List Int} {B : List Cnt} (h : mayB B = true) : ∀ c ∈ pickL cs B, mayR c.row = true := by
 intro c hc
 obtain ⟨b, hb, hc⟩ := List.mem_flatMap.1 hc
 unfold pickC at hc
 split at hc
 ·rename_i hk
  rw [List.mem_singleton] at hc
  subst hc
  have hall := mayB_row h hb
  unfold mayR at hall ⊢
  simp only [Bool.and_eq_true, decide_eq_true_eq, List.all_eq_true] at hall ⊢
  refine ⟨hk.2, ?_⟩
  intro v hv
  obtain ⟨k, hkm, rfl⟩ := List.mem_map.1 hv
  have hk2 := hk.1
  unfold pickOk at hk2
  have := of_decide_eq_true (List.all_eq_true.1 hk2 k hkm)
  have hlt : k.toNat < b.row.length := by omega
  have e : b.row.getD k.toNat nul = b.row[k.toNat] := by rw [List.getD, List.getElem?_eq_getElem hlt]; rfl
  rw [e]
  exact hall.2 _ (List.getElem_mem hlt)
 ·cases hc

def pickV (cs : List Int) (B : List Cnt) : List Cnt := if mayB B = true ∧ mayB (sumB (pickL cs B)) = true then sumB (pickL cs B) else []

theorem pickV_eq {cs : List Int} {B : List Cnt} (h : mayB B = true) (hn : absN B ≤ 1000000000) : pickV cs B = sumB (pickL cs B) := by
 unfold pickV
 rw [if_pos ⟨h, sum_may (pick_row h) (Nat.le_trans (pick_absN cs B) hn)⟩]

theorem pickV_may (cs : List Int) (B : List Cnt) : mayB (pickV cs B) = true := by
 unfold pickV
 split
 ·rename_i h; exact h.2
 ·exact mayB_nil

/-! changes -/

section
variable {w : List UInt8} {i j : Int} {f : List Val → Bool × Int} {A dA B dB : List Cnt}

end

end Go.Proofs.YtkaljlpbmbfpgaaGreatDoor

set_option linter.unusedVariables false
set_option linter.unusedSimpArgs false
namespace Go.Proofs.YtkaljlpbmbfpgaaGreatDoor
open Go Go.Pu

/-! bytes as cells -/

end Go.Proofs.YtkaljlpbmbfpgaaGreatDoor

set_option linter.unusedVariables false
set_option linter.unusedSimpArgs false
namespace Go.Proofs.YtkaljlpbmbfpgaaGreatDoor
open Go Go.Pu

/-- the rows of a bag of which a row is picked -/
def inB (pk : List Int) (k : List Val) (b : List Cnt) : List Cnt := b.filter fun c => pickOk c.row pk && decide (pickR c.row pk = k)

def negFree (b : List Cnt) : Bool := b.all fun c => decide (0 ≤ c.n)
def rightB (b : List Cnt) : Int := if mayB b = true ∧ negFree b = true then (if sumN b ≤ 100000 then 0 else 100) else 1

def valI (col : Int) (r : List Val) : Int := if (atV r col).k = 2 then (atV r col).n else 0
def anyI (col : Int) (b : List Cnt) : Bool := b.any fun c => decide ((atV c.row col).k = 2)
def sumV (col : Int) (b : List Cnt) : Val × Int :=
 if anyI col b = true then (if -9223372036854775808 ≤ lin (valI col) b ∧ lin (valI col) b < 9223372036854775808 then (⟨2, lin (valI col) b, []⟩, 0) else (nul, 110)) else (nul, 0)

def better (s : Int) (v w : Val) : Bool := decide (v.k ≠ 0) && (decide (w.k = 0) || decide (s * cmpV v w < 0))
def bestV (s col : Int) : List Cnt → Val → Val
 | [], w => w
 | c :: b, w => bestV s col b (if better s (atV c.row col) w = true then atV c.row col else w)

def aggV (fn col : Int) (b : List Cnt) : Val × Int :=
 if fn = 0 then (⟨2, sumN b, []⟩, 0) else if fn = 1 then sumV col b else if fn = 2 then (bestV 1 col b nul, 0) else if fn = 3 then (bestV (-1) col b nul, 0) else (nul, 0)

structure Ag where
 f : Int
 c : Int
def Ag.e (a : Ag) : List PV := [pI a.f, pI a.c]

/-- the values of some aggregates, or what is wrong with the first one with which something is -/
def aggsV (b : List Cnt) : List Ag → List Val × Int
 | [] => ([], 0)
 | a :: ag => if (aggV a.f a.c b).2 ≠ 0 then ([], (aggV a.f a.c b).2) else if (aggsV b ag).2 ≠ 0 then ([], (aggsV b ag).2) else ((aggV a.f a.c b).1 :: (aggsV b ag).1, 0)

def groupF (pk : List Int) (ag : List Ag) (b : List Cnt) : List (List Val) → List Cnt × Int
 | [] => ([], 0)
 | k :: ks => if (aggsV (inB pk k b) ag).2 ≠ 0 then ([], (aggsV (inB pk k b) ag).2) else if (groupF pk ag b ks).2 ≠ 0 then ([], (groupF pk ag b ks).2) else (⟨k ++ (aggsV (inB pk k b) ag).1, 1⟩ :: (groupF pk ag b ks).1, 0)

def keysB (pk : List Int) (b : List Cnt) : List (List Val) := (pickV pk b).map Cnt.row

def groupV (pk : List Int) (g : Bool) (ag : List Ag) (b : List Cnt) : List Cnt × Int :=
 if rightB b ≠ 0 then ([], rightB b) else if g = false then (pickV pk b, 0)
 else if pickV pk b ≠ [] ∧ 40 < pk.length + ag.length then ([], 100)
 else groupF pk ag b (keysB pk b)

/-! what is right -/

theorem rightB_iff {b : List Cnt} : rightB b = 0 ↔ mayB b = true ∧ negFree b = true ∧ sumN b ≤ 100000 := by
 unfold rightB
 by_cases h : mayB b = true ∧ negFree b = true
 ·by_cases h2 : sumN b ≤ 100000
  ·simp [h, h2]
  ·simp [h, h2]
 ·rw [if_neg h]
  constructor
  ·intro e; exact absurd e (by decide)
  ·intro e; exact absurd ⟨e.1, e.2.1⟩ h

theorem negFree_iff {b : List Cnt} : negFree b = true ↔ ∀ c ∈ b, 0 ≤ c.n := by
 simp [negFree, List.all_eq_true]

theorem sumN_cons (c : Cnt) (b : List Cnt) : sumN (c :: b) = c.n + sumN b := by simp [sumN]

theorem sumN_filter {p : Cnt → Bool} : ∀ {b : List Cnt}, (∀ c ∈ b, 0 ≤ c.n) → 0 ≤ sumN (b.filter p) ∧ sumN (b.filter p) ≤ sumN b
 | [], _ => by simp [sumN]
 | c :: b, h => by
  obtain ⟨h1, h2⟩ := sumN_filter (p := p) (b := b) fun d hd => h d (List.mem_cons_of_mem _ hd)
  have h3 := h c (List.mem_cons_self ..)
  rw [sumN_cons]
  by_cases hp : p c = true
  ·rw [List.filter_cons_of_pos hp, sumN_cons]; omega
  ·rw [List.filter_cons_of_neg (by simpa using hp)]; omega

theorem may_filter {p : Cnt → Bool} {b : List Cnt} (h : mayB b = true) : mayB (b.filter p) = true := by
 obtain ⟨h1, h2⟩ := mayB_iff.1 h
 exact mayB_iff.2 ⟨List.Pairwise.sublist List.filter_sublist h1, fun c hc => h2 c (List.mem_filter.1 hc).1⟩

/-- a part of what is right is right -/
theorem right_filter {p : Cnt → Bool} {b : List Cnt} (h : rightB b = 0) : rightB (b.filter p) = 0 := by
 obtain ⟨h1, h2, h3⟩ := rightB_iff.1 h
 have h2 := negFree_iff.1 h2
 have := sumN_filter (p := p) h2
 exact rightB_iff.2 ⟨may_filter h1, negFree_iff.2 fun c hc => h2 c (List.mem_filter.1 hc).1, by omega⟩

theorem right_pos {b : List Cnt} (h : rightB b = 0) : ∀ c ∈ b, 1 ≤ c.n := by
 obtain ⟨h1, h2, _⟩ := rightB_iff.1 h
 intro c hc
 have h3 := negFree_iff.1 h2 c hc
 have h4 := (mayC h1).2 c hc
 omega

theorem abs_pos : ∀ {b : List Cnt}, (∀ c ∈ b, 0 ≤ c.n) → (absN b : Int) = sumN b
 | [], _ => rfl
 | c :: b, h => by
  have ih := abs_pos (b := b) fun d hd => h d (List.mem_cons_of_mem _ hd)
  have h3 := h c (List.mem_cons_self ..)
  rw [sumN_cons, show absN (c :: b) = c.n.natAbs + absN b from rfl]
  omega

theorem right_abs {b : List Cnt} (h : rightB b = 0) : absN b ≤ 100000 := by
 obtain ⟨h1, h2, h3⟩ := rightB_iff.1 h
 have := abs_pos (negFree_iff.1 h2)
 omega

theorem pickV_right {pk : List Int} {b : List Cnt} (h : rightB b = 0) : pickV pk b = sumB (pickL pk b) :=
 pickV_eq (rightB_iff.1 h).1 (Nat.le_trans (right_abs h) (by decide))

theorem aggsV_bad {b : List Cnt} {a : Ag} {ag : List Ag} (h : (aggV a.f a.c b).2 ≠ 0) : aggsV b (a :: ag) = ([], (aggV a.f a.c b).2) := by rw [aggsV, if_pos h]
theorem aggsV_late {b : List Cnt} {a : Ag} {ag : List Ag} (h : (aggV a.f a.c b).2 = 0) (h2 : (aggsV b ag).2 ≠ 0) : aggsV b (a :: ag) = ([], (aggsV b ag).2) := by rw [aggsV, if_neg (by simp [h]), if_pos h2]
theorem aggsV_good {b : List Cnt} {a : Ag} {ag : List Ag} (h : (aggV a.f a.c b).2 = 0) (h2 : ¬ (aggsV b ag).2 ≠ 0) : aggsV b (a :: ag) = ((aggV a.f a.c b).1 :: (aggsV b ag).1, 0) := by rw [aggsV, if_neg (by simp [h]), if_neg h2]
theorem groupF_bad {pk : List Int} {ag : List Ag} {b : List Cnt} {k : List Val} {ks : List (List Val)} (h : (aggsV (inB pk k b) ag).2 ≠ 0) : groupF pk ag b (k :: ks) = ([], (aggsV (inB pk k b) ag).2) := by rw [groupF, if_pos h]
theorem groupF_late {pk : List Int} {ag : List Ag} {b : List Cnt} {k : List Val} {ks : List (List Val)} (h : ¬ (aggsV (inB pk k b) ag).2 ≠ 0) (h2 : (groupF pk ag b ks).2 ≠ 0) : groupF pk ag b (k :: ks) = ([], (groupF pk ag b ks).2) := by rw [groupF, if_neg h, if_pos h2]
theorem groupF_good {pk : List Int} {ag : List Ag} {b : List Cnt} {k : List Val} {ks : List (List Val)} (h : ¬ (aggsV (inB pk k b) ag).2 ≠ 0) (h2 : ¬ (groupF pk ag b ks).2 ≠ 0) : groupF pk ag b (k :: ks) = (⟨k ++ (aggsV (inB pk k b) ag).1, 1⟩ :: (groupF pk ag b ks).1, 0) := by rw [groupF, if_neg h, if_neg h2]

/-! the values of aggregates may be -/

theorem bestV_mem (s col : Int) : ∀ (b : List Cnt) (w : Val), bestV s col b w = w ∨ ∃ c ∈ b, bestV s col b w = atV c.row col
 | [], w => .inl rfl
 | c :: b, w => by
  rw [bestV]
  rcases bestV_mem s col b (if better s (atV c.row col) w = true then atV c.row col else w) with h | ⟨d, hd, h⟩
  ·split at h
   ·exact .inr ⟨c, List.mem_cons_self .., by rw [if_pos ‹_›, h]⟩
   ·exact .inl (by rw [if_neg ‹_›, h])
  ·exact .inr ⟨d, List.mem_cons_of_mem _ hd, h⟩

theorem aggsV_len {b : List Cnt} : ∀ {ag : List Ag}, (aggsV b ag).2 = 0 → (aggsV b ag).1.length = ag.length
 | [], _ => rfl
 | a :: ag, h => by
  rw [aggsV] at h ⊢
  by_cases h1 : (aggV a.f a.c b).2 ≠ 0
  ·rw [if_pos h1] at h; exact absurd h h1
  ·rw [if_neg h1] at h ⊢
   by_cases h2 : (aggsV b ag).2 ≠ 0
   ·rw [if_pos h2] at h; exact absurd h h2
   ·rw [if_neg h2]
    simp [aggsV_len (ag := ag) (by simpa using h2)]

theorem aggsV_mem {b : List Cnt} : ∀ {ag : List Ag}, ∀ v ∈ (aggsV b ag).1, ∃ a ∈ ag, (aggV a.f a.c b).2 = 0 ∧ v = (aggV a.f a.c b).1
 | [], v, h => by cases h
 | a :: ag, v, h => by
  rw [aggsV] at h
  split at h
  ·cases h
  ·split at h
   ·cases h
   ·rename_i h1 _
    rcases List.mem_cons.1 h with e | e
    ·exact ⟨a, List.mem_cons_self .., by simpa using h1, e⟩
    ·obtain ⟨x, hx, h2⟩ := aggsV_mem v e
     exact ⟨x, List.mem_cons_of_mem _ hx, h2⟩

theorem groupF_mem {pk : List Int} {ag : List Ag} {b : List Cnt} : ∀ {ks : List (List Val)} {c : Cnt}, c ∈ (groupF pk ag b ks).1 → ∃ k ∈ ks, (aggsV (inB pk k b) ag).2 = 0 ∧ c = ⟨k ++ (aggsV (inB pk k b) ag).1, 1⟩
 | [], c, h => by cases h
 | k :: ks, c, h => by
  rw [groupF] at h
  split at h
  ·cases h
  ·split at h
   ·cases h
   ·rename_i h1 _
    rcases List.mem_cons.1 h with e | e
    ·exact ⟨k, List.mem_cons_self .., by simpa using h1, e⟩
    ·obtain ⟨x, hx, h2⟩ := groupF_mem e
     exact ⟨x, List.mem_cons_of_mem _ hx, h2⟩

theorem groupF_ok {pk : List Int} {ag : List Ag} {b : List Cnt} : ∀ {ks : List (List Val)}, (groupF pk ag b ks).2 = 0 ↔ ∀ k ∈ ks, (aggsV (inB pk k b) ag).2 = 0
 | [] => by simp [groupF]
 | k :: ks => by
  rw [groupF]
  by_cases h1 : (aggsV (inB pk k b) ag).2 ≠ 0
  ·rw [if_pos h1]
   exact ⟨fun h => absurd h h1, fun h => absurd (h k (List.mem_cons_self ..)) h1⟩
  ·rw [if_neg h1]
   have h1' : (aggsV (inB pk k b) ag).2 = 0 := by simpa using h1
   by_cases h2 : (groupF pk ag b ks).2 ≠ 0
   ·rw [if_pos h2]
    exact ⟨fun h => absurd h h2, fun h => absurd (groupF_ok.2 fun x hx => h x (List.mem_cons_of_mem _ hx)) h2⟩
   ·rw [if_neg h2]
    have h2' := groupF_ok.1 (by simpa using h2 : (groupF pk ag b ks).2 = 0)
    exact ⟨fun _ x hx => (List.mem_cons.1 hx).elim (fun e => e ▸ h1') (h2' x), fun _ => rfl⟩

theorem groupF_eq {pk : List Int} {ag : List Ag} {b : List Cnt} : ∀ {ks : List (List Val)}, (groupF pk ag b ks).2 = 0 → (groupF pk ag b ks).1 = ks.map fun k => ⟨k ++ (aggsV (inB pk k b) ag).1, 1⟩
 | [], _ => rfl
 | k :: ks, h => by
  have ha := groupF_ok.1 h
  have h2 : (groupF pk ag b ks).2 = 0 := groupF_ok.2 fun x hx => ha x (List.mem_cons_of_mem _ hx)
  rw [groupF, if_neg (by simp [ha k (List.mem_cons_self ..)]), if_neg (by simp [h2])]
  simp [groupF_eq h2]

theorem groupF_err {pk : List Int} {ag : List Ag} {b : List Cnt} : ∀ {ks : List (List Val)}, (groupF pk ag b ks).2 ≠ 0 → (groupF pk ag b ks).1 = []
 | [], h => absurd rfl h
 | k :: ks, h => by
  rw [groupF] at h ⊢
  split at h
  ·rw [if_pos ‹_›]
  ·rw [if_neg ‹_›]
   split at h
   ·rw [if_pos ‹_›]
   ·exact absurd rfl h

/-- keys differ from each other -/
theorem keys_nodup (pk : List Int) (b : List Cnt) : (keysB pk b).Pairwise fun x y => cmpR x y < 0 := by
 unfold keysB
 rw [List.pairwise_map]
 exact (mayB_iff.1 (pickV_may pk b)).1

theorem key_of {pk : List Int} {b : List Cnt} {k : List Val} (h : k ∈ keysB pk b) : ∃ c ∈ b, pickOk c.row pk = true ∧ pickR c.row pk = k ∧ k.length = pk.length ∧ k.length ≤ 40 := by
 obtain ⟨d, hd, rfl⟩ := List.mem_map.1 h
 unfold pickV at hd
 split at hd
 ·obtain ⟨e, he, hr⟩ := sumB_row hd
  obtain ⟨c, hc, hm⟩ := List.mem_flatMap.1 he
  unfold pickC at hm
  split at hm
  ·rename_i hp
   rw [List.mem_singleton] at hm
   subst hm
   simp only at hr
   refine ⟨c, hc, hp.1, hr, by rw [← hr]; simp [pickR], by rw [← hr]; exact hp.2⟩
  ·cases hm
 ·cases hd

end Go.Proofs.YtkaljlpbmbfpgaaGreatDoor

set_option linter.unusedVariables false
set_option linter.unusedSimpArgs false
namespace Go.Proofs.YtkaljlpbmbfpgaaGreatDoor
open Go Go.Pu

theorem bag_fits_res (n : Int) : (m_zn [.i n]).res = some (0, [.b (fitsN n)]) := by
 by_cases h1 : -1000000000 ≤ n <;> by_cases h2 : n ≤ 1000000000 <;> simp [m_zn, fitsN, h1, h2]
theorem R05_Fits_res (n : Int) : (m_zar [.i n]).res = some (0, [.b (fitsN n)]) := by
 by_cases h1 : -1000000000 ≤ n <;> by_cases h2 : n ≤ 1000000000 <;> simp [m_zar, fitsN, h1, h2]

theorem sub1 {i : Nat} (h : 0 < i) (h2 : i < 4611686018427387904) : w64 ((i : Int) - 1) = ((i - 1 : Nat) : Int) := by
 rw [w64_eq (by omega) (by omega)]; omega

theorem goodAt_at {b : List Cnt} {i : Nat} (h : i < b.length) : goodAt b i = (goodC b[i] && (decide (i = 0) || decide (cmpR (b.getD (i - 1) ⟨[], 0⟩).row b[i].row < 0))) := by
 unfold goodAt; rw [getD_in h]

theorem bag_May_res (b : List Cnt) (hb : okB b) : (m_zq [.l (b.map Cnt.e)]).res = some (0, [.b (mayB b)]) := by
 have hn := hb.1
 have h := loop_ix b.length (rd := rd_zq_55_2) (fun i => [.l (b.map Cnt.e), .l (b.map Cnt.e), .i (b.length : Nat), .i (i : Nat)]) (goodAt b) 0 1 (fun _ => [.b false]) [] (by simp [rd_zq_55_2]) (by
  intro i h _
  have hm := List.getElem_mem h
  have hc := hb.2 _ hm
  have h1 := bag_fits_res b[i].n
  have h2 := row_May_res b[i].row hc.1
  rw [goodAt_at h]
  unfold goodC
  by_cases c0 : b[i].n = 0
  ·simp [rd_zq_55_2, el_map _ _ h, h, Cnt.e, c0]
  by_cases c1 : fitsN b[i].n = true
  ·by_cases c2 : mayR b[i].row = true
   ·by_cases ci : i = 0
    ·subst ci
     have e0 : el (b.map Cnt.e) 0 = b[0].e := el_map _ _ h
     have e1 : w64 1 = 1 := rfl
     simp [rd_zq_55_2, e0, e1, h, Cnt.e, c0, h1, h2, c1, c2]
    ·have hp : i - 1 < b.length := by omega
     have h3 := row_Compare_res b[i - 1].row b[i].row (hb.2 _ (List.getElem_mem hp)).1.1
     have hi : (0 : Int) < (i : Int) := by omega
     rw [getD_in hp]
     by_cases c3 : cmpR b[i - 1].row b[i].row < 0
     ·have c4 : ¬ 0 ≤ cmpR b[i - 1].row b[i].row := by omega
      simp [rd_zq_55_2, el_map _ _ h, el_map _ _ hp, h, hp, Cnt.e, c0, h1, h2, c1, c2, ci, h3, c3, c4, sub1 (i := i) (by omega) (by omega), w64_succ (i := i) (by omega)]
     ·have c4 : 0 ≤ cmpR b[i - 1].row b[i].row := by omega
      simp [rd_zq_55_2, el_map _ _ h, el_map _ _ hp, h, hp, Cnt.e, c0, h1, h2, c1, c2, ci, h3, c3, c4, sub1 (i := i) (by omega) (by omega)]
   ·simp [rd_zq_55_2, el_map _ _ h, h, Cnt.e, c0, h1, h2, c1, c2]
  ·simp [rd_zq_55_2, el_map _ _ h, h, Cnt.e, c0, h1, c1])
 rcases h with ⟨k1, k2⟩ | ⟨i, k1, k2, _, k3⟩
 ·have e : mayB b = true := decide_eq_true k1
  simp only [Int.natCast_zero] at k2
  simp [m_zq, k2, e]
 ·have e : mayB b = false := decide_eq_false fun hh => by rw [hh i k1] at k2; cases k2
  simp only [Int.natCast_zero] at k3
  simp [m_zq, k3, e]

theorem R05_May_res (b : List Cnt) (hb : okB b) : (m_zas [.l (b.map Cnt.e)]).res = some (0, [.b (mayB b)]) := by
 have hn := hb.1
 have h := loop_ix b.length (rd := rd_zas_31_2) (fun i => [.l (b.map Cnt.e), .i (i : Nat)]) (goodAt b) 0 1 (fun _ => [.b false]) [] (by simp [rd_zas_31_2]) (by
  intro i h _
  have hm := List.getElem_mem h
  have hc := hb.2 _ hm
  have h1 := R05_Fits_res b[i].n
  have h2 := R04_May_res b[i].row hc.1
  rw [goodAt_at h]
  unfold goodC
  by_cases c0 : b[i].n = 0
  ·simp [rd_zas_31_2, el_map _ _ h, h, Cnt.e, c0]
  by_cases c1 : fitsN b[i].n = true
  ·by_cases c2 : mayR b[i].row = true
   ·by_cases ci : i = 0
    ·subst ci
     have e0 : el (b.map Cnt.e) 0 = b[0].e := el_map _ _ h
     have e1 : w64 1 = 1 := rfl
     simp [rd_zas_31_2, e0, e1, h, Cnt.e, c0, h1, h2, c1, c2]
    ·have hp : i - 1 < b.length := by omega
     have h3 := R02_Compare_res b[i - 1].row b[i].row (hb.2 _ (List.getElem_mem hp)).1.1
     have hi : (0 : Int) < (i : Int) := by omega
     rw [getD_in hp]
     by_cases c3 : cmpR b[i - 1].row b[i].row < 0
     ·have c4 : ¬ 0 ≤ cmpR b[i - 1].row b[i].row := by omega
      simp [rd_zas_31_2, el_map _ _ h, el_map _ _ hp, h, hp, Cnt.e, c0, h1, h2, c1, c2, ci, h3, c3, c4, sub1 (i := i) (by omega) (by omega), w64_succ (i := i) (by omega)]
     ·have c4 : 0 ≤ cmpR b[i - 1].row b[i].row := by omega
      simp [rd_zas_31_2, el_map _ _ h, el_map _ _ hp, h, hp, Cnt.e, c0, h1, h2, c1, c2, ci, h3, c3, c4, sub1 (i := i) (by omega) (by omega)]
   ·simp [rd_zas_31_2, el_map _ _ h, h, Cnt.e, c0, h1, h2, c1, c2]
  ·simp [rd_zas_31_2, el_map _ _ h, h, Cnt.e, c0, h1, c1])
 rcases h with ⟨k1, k2⟩ | ⟨i, k1, k2, _, k3⟩
 ·have e : mayB b = true := decide_eq_true k1
  simp only [Int.natCast_zero] at k2
  simp [m_zas, k2, e]
 ·have e : mayB b = false := decide_eq_false fun hh => by rw [hh i k1] at k2; cases k2
  simp only [Int.natCast_zero] at k3
  simp [m_zas, k3, e]

def smallB (b : List Cnt) : Bool := b.all (fun c => shortR c.row) && decide (b.length ≤ 60)
theorem R05_Small_res (b : List Cnt) (hb : okB b) : (m_zbc [.l (b.map Cnt.e)]).res = some (0, [.b (smallB b)]) := by
 have hn := hb.1
 have h := loop_all' b (rd := rd_zbc_13_2) (fun i => [.l (b.map Cnt.e), .i (i : Nat)]) (fun c => shortR c.row) 0 1 [.b false] [.l (b.map Cnt.e)] (by simp [rd_zbc_13_2]) (by
  intro i h
  have h1 := R02_Short_res (hb.2 _ (List.getElem_mem h)).1
  by_cases c : shortR b[i].row = true
  ·simp [rd_zbc_13_2, el_map _ _ h, h, Cnt.e, h1, c, w64_succ (i := i) (by omega)]
  ·simp [rd_zbc_13_2, el_map _ _ h, h, Cnt.e, h1, c])
 simp only [Int.natCast_zero] at h
 unfold smallB
 by_cases e : b.all (fun c => shortR c.row) = true
 ·rw [if_pos e] at h
  by_cases h6 : b.length ≤ 60
  ·have h7 : (b.length : Int) ≤ 60 := by omega
   simp only [m_zbc, h, ok_some', out_some, uL_0, ln_map, res_test, res_stop, beq_self_eq_true, if_true, e, h6, h7, decide_true, Bool.and_self]
   rfl
  ·have h7 : ¬ (b.length : Int) ≤ 60 := by omega
   simp only [m_zbc, h, ok_some', out_some, uL_0, ln_map, res_test, res_stop, beq_self_eq_true, if_true, e, h6, h7, decide_false, Bool.and_false]
   rfl
 ·rw [if_neg e] at h
  rw [Bool.not_eq_true] at e
  simp [m_zbc, h, e]

end Go.Proofs.YtkaljlpbmbfpgaaGreatDoor

set_option linter.unusedVariables false
set_option linter.unusedSimpArgs false
namespace Go.Proofs.YtkaljlpbmbfpgaaGreatDoor
open Go Go.Pu

def cntT (n : Int) : List UInt8 := if n = 1 then [] else 42 :: Lib.itoa n
def entT (c : Cnt) : List UInt8 := txtR c.row ++ cntT c.n
/-- what stands behind the first row -/
def tlC (b : List Cnt) : List UInt8 := b.flatMap fun c => 32 :: entT c
def txtB : List Cnt → List UInt8
 | [] => []
 | c :: b => entT c ++ tlC b

end Go.Proofs.YtkaljlpbmbfpgaaGreatDoor

set_option linter.unusedVariables false
set_option linter.unusedSimpArgs false
namespace Go.Proofs.YtkaljlpbmbfpgaaGreatDoor
open Go Go.Pu

def hd (r : List Val) : Val := match r with | v :: _ => v | [] => default
def Rec.key (c : Rec) : Val := hd c.row
/-! may a table be? -/

@[simp] theorem el_recs {l : List Rec} {i : Nat} (h : i < l.length) : el (l.map Rec.e) i = Rec.e l[i] := el_map _ _ h

/-! a table that may be rises -/

end Go.Proofs.YtkaljlpbmbfpgaaGreatDoor

set_option linter.unusedVariables false
set_option linter.unusedSimpArgs false
namespace Go.Proofs.YtkaljlpbmbfpgaaGreatDoor
open Go Go.Pu

/-- where a key is, or would be -/
structure At (l : List Rec) (k : Val) (p : Nat) : Prop where
 le : p ≤ l.length
 lo : ∀ i (h : i < l.length), i < p → cmpV (l[i]).key k < 0
 hi : ∀ i (h : i < l.length), p ≤ i → 0 ≤ cmpV (l[i]).key k

/-! by a key -/

end Go.Proofs.YtkaljlpbmbfpgaaGreatDoor

set_option linter.unusedSimpArgs false
set_option linter.unusedVariables false
namespace Go.Proofs.YtkaljlpbmbfpgaaGreatDoor
open Go Go.Pu

def dC (N : Nat) (f : Nat → Cnt) : List (List PV) := (tab N f).map Cnt.e
@[simp] theorem dC_length (N : Nat) (f : Nat → Cnt) : (dC N f).length = N := by simp [dC]
@[simp] theorem dC_ln (N : Nat) (f : Nat → Cnt) : ln (dC N f) = (N : Int) := by simp [ln]
theorem dC_el (N : Nat) (f : Nat → Cnt) {i : Nat} (h : i < N) : el (dC N f) (i : Int) = (f i).e := by
 unfold dC
 rw [el_map _ _ (by simpa using h), tab_get]
theorem dC_set (N : Nat) (f : Nat → Cnt) (i : Nat) (x : Cnt) : (dC N f).set i x.e = dC N (updF f i x) := by
 unfold dC; rw [← List.map_set, tab_set]
theorem setC (x y : Cnt) : setCells x.e 0 [PV.lst 39 (cL y.e 0), pI (cI y.e 1)] = y.e := by simp [Cnt.e, setCells]
theorem add64 {a b : Nat} (h : a + b < 4611686018427387904) : w64 ((a : Int) + (b : Int)) = ((a + b : Nat) : Int) := by
 rw [w64_eq (by omega) (by omega)]; omega
theorem sub64 {a b : Nat} (h : b ≤ a) (h2 : a < 4611686018427387904) : w64 ((a : Int) - (b : Int)) = ((a - b : Nat) : Int) := by
 rw [w64_eq (by omega) (by omega)]; omega
theorem sub64' {a : Nat} (h : 1 ≤ a) (h2 : a < 4611686018427387904) : w64 ((a : Int) - 1) = ((a - 1 : Nat) : Int) := by
 rw [w64_eq (by omega) (by omega)]; omega

theorem swapRange_res (N : Nat) (f : Nat → Cnt) (a b n : Nat) (h1 : a + n ≤ b) (h2 : b + n ≤ N) (hN : N ≤ 4398046511104) :
  (m_zg [.i a, .i b, .i n, .l (dC N f)]).res = some (0, [.l (dC N (sw f a b n))]) := by
 have hl : lres rd_zg_129_1 [.i a, .i b, .i n, .i (0 : Nat), .l (dC N f)] = some (0, [.l (dC N (sw f a b n))]) := by
  have := loop_acc (rd := rd_zg_129_1) n (fun i => [.i a, .i b, .i n, .i (i : Nat), .l (dC N (sw f a b i))]) (some (0, [.l (dC N (sw f a b n))]))
   (lres_stop (by simp [rd_zg_129_1]))
   (fun i hi => by
    simp only [rd_zg_129_1, add64 (a := a) (b := i) (by omega), add64 (a := b) (b := i) (by omega), Int.toNat_natCast, dC_el N _ (show a + i < N by omega), dC_el N _ (show b + i < N by omega), setC, dC_set, updF_updF,
     sw_succ f (show a + (i + 1) ≤ b by omega)]
    simp [-Int.natCast_add, w64_succ (i := i) (by omega), show i < n from hi, show a + i < N by omega, show b + i < N by omega])
  simpa [sw_0] using this
 simp only [m_zg]
 have h0 : ((0 : Nat) : Int) = 0 := rfl
 rw [h0] at hl
 simp [hl]

theorem rotate_loop (N m : Nat) (hN : N ≤ 4398046511104) : ∀ (s i j : Nat) (f : Nat → Cnt), i + j ≤ s → 0 < i → 0 < j → i ≤ m → m + j ≤ N →
  ∃ r g, 0 < r ∧ r ≤ m ∧ m + r ≤ N ∧ lres rd_zh_118_2 [.i m, .i i, .i j, .l (dC N f)] = some (0, [.i m, .i r, .l (dC N g)]) ∧ sw g (m - r) m r = rt f (m - i) m (m + j) ∧ (tab N g).Perm (tab N f) := by
 intro s
 induction s with
 | zero => intro i j f h h1 h2; omega
 | succ s ih =>
  intro i j f h h1 h2 h3 h4
  rcases Nat.lt_trichotomy i j with hij | hij | hij
  ·obtain ⟨r, g, g1, g2, g3, g4, g5, g6⟩ := ih i (j - i) (sw f (m - i) (m + j - i) i) (by omega) h1 (by omega) h3 (by omega)
   refine ⟨r, g, g1, g2, g3, ?_, by rw [g5, rt_lt f h3 h1 hij], g6.trans (sw_perm N f i (by omega) (by omega))⟩
   rw [← g4]
   refine lres_next ?_
   have e := swapRange_res N f (m - i) (m + j - i) i (by omega) (by omega) hN
   simp only [rd_zh_118_2, sub64 (a := m) (b := i) h3 (by omega), add64 (a := m) (b := j) (by omega), sub64 (a := m + j) (b := i) (by omega) (by omega), sub64 (a := j) (b := i) (by omega) (by omega)]
   simp [-Int.natCast_add, e, show ¬ ((i : Int) = (j : Int)) by omega, show ¬ (j < i) by omega]
  ·subst hij
   refine ⟨i, f, h1, h3, h4, lres_stop ?_, rt_eq f h3, List.Perm.refl _⟩
   simp [rd_zh_118_2]
  ·obtain ⟨r, g, g1, g2, g3, g4, g5, g6⟩ := ih (i - j) j (sw f (m - i) m j) (by omega) (by omega) h2 (by omega) h4
   refine ⟨r, g, g1, g2, g3, ?_, by rw [g5, rt_gt f h3 h2 hij], g6.trans (sw_perm N f j (by omega) (by omega))⟩
   rw [← g4]
   refine lres_next ?_
   have e := swapRange_res N f (m - i) m j (by omega) (by omega) hN
   simp only [rd_zh_118_2, sub64 (a := m) (b := i) h3 (by omega), sub64 (a := i) (b := j) (by omega) (by omega)]
   simp [-Int.natCast_add, e, show ¬ ((i : Int) = (j : Int)) by omega, show j < i by omega]

theorem rotate_res (N : Nat) (f : Nat → Cnt) (a m b : Nat) (h1 : a < m) (h2 : m < b) (h3 : b ≤ N) (hN : N ≤ 4398046511104) :
  (m_zh [.i a, .i m, .i b, .l (dC N f)]).res = some (0, [.l (dC N (rt f a m b))]) ∧ (tab N (rt f a m b)).Perm (tab N f) := by
 obtain ⟨r, g, g1, g2, g3, g4, g5, g6⟩ := rotate_loop N m hN (b - a) (m - a) (b - m) f (by omega) (by omega) (by omega) (by omega) (by omega)
 have e1 : m - (m - a) = a := by omega
 have e2 : m + (b - m) = b := by omega
 rw [e1, e2] at g5
 rw [← g5]
 have e := swapRange_res N g (m - r) m r (by omega) (by omega) hN
 refine ⟨?_, (sw_perm N g r (by omega) (by omega)).trans g6⟩
 simp only [m_zh, sub64 (a := m) (b := a) (by omega) (by omega), sub64 (a := b) (b := m) (by omega) (by omega), g4]
 simp [-Int.natCast_add, sub64 (a := m) (b := r) (by omega) (by omega), e]

/-! insertion -/

def cC (x y : Cnt) : Int := cmpR x.row y.row
theorem preC : Pre cC := ⟨fun a b => cR.anti _ _, fun a b d => cR.trans _ _ _⟩
def okF (f : Nat → Cnt) : Prop := ∀ k, (f k).row.length ≤ 4398046511104
theorem okF.mv {N a b : Nat} {f g : Nat → Cnt} (h : okF f) (hm : Mv N a b g f) : okF g := by
 intro k
 by_cases e : a ≤ k ∧ k < b
 ·obtain ⟨k', _, _, e2⟩ := hm.frm k e.1 e.2
  rw [e2]; exact h k'
 ·rw [hm.out k (by omega)]; exact h k
theorem cmpC_res (x y : Cnt) (h : x.row.length ≤ 4398046511104) : (m_ze [.l (cL x.e 0), .l (cL y.e 0)]).res = some (0, [.i (cC x y)]) := row_Compare_res x.row y.row h

theorem ins_loop (N : Nat) (hN : N ≤ 4398046511104) (a b i : Nat) (hi : i < N) : ∀ (j : Nat) (f : Nat → Cnt), a ≤ j → j ≤ i → okF f → Ins cC f a i j →
  ∃ g, lres rd_zf_107_4 [.i a, .i b, .i i, .i j, .l (dC N f)] = some (0, [.i a, .i b, .i i, .l (dC N g)]) ∧ Mv N a (i + 1) g f ∧ srt cC g a (i + 1) := by
 intro j
 induction j with
 | zero =>
  intro f h1 h2 hf hI
  have : a = 0 := by omega
  subst this
  refine ⟨f, lres_stop ?_, Mv.refl _ _ _ _, hI.done0⟩
  simp [rd_zf_107_4]
 | succ j ih =>
  intro f h1 h2 hf hI
  by_cases ha : a = j + 1
  ·subst ha
   refine ⟨f, lres_stop ?_, Mv.refl _ _ _ _, hI.done0⟩
   simp [rd_zf_107_4]
  ·have e1 : w64 (((j + 1 : Nat) : Int) - 1) = (j : Int) := by rw [sub64' (by omega) (by omega)]; simp
   have hc := cmpC_res (f (j + 1)) (f j) (hf _)
   by_cases hlt : cC (f (j + 1)) (f j) < 0
   ·have hI' := hI.next preC (by omega) h2 (by simpa using hlt)
    have hm : Mv N a (i + 1) (sw1 f (j + 1) j) f := Mv.sw1 f (by omega) (by omega) (by omega)
    obtain ⟨g, g1, g2, g3⟩ := ih (sw1 f (j + 1) j) (by omega) (by omega) (hf.mv hm) hI'
    refine ⟨g, ?_, g2.trans hm, g3⟩
    rw [← g1]
    refine lres_next ?_
    simp only [rd_zf_107_4, e1, Int.toNat_natCast, dC_el N f (show j + 1 < N by omega), dC_el N f (show j < N by omega), hc, setC, dC_set]
    rw [dC_el N _ (show j < N by omega)]
    simp only [setC, dC_set, updF_updF]
    simp [-Int.natCast_add, hlt, show a < j + 1 by omega, show j + 1 < N by omega, show j < N by omega]
   ·refine ⟨f, lres_stop ?_, Mv.refl _ _ _ _, hI.done preC (by omega) h2 (by simpa using hlt)⟩
    simp only [rd_zf_107_4, e1, Int.toNat_natCast, dC_el N f (show j + 1 < N by omega), dC_el N f (show j < N by omega), hc, setC, dC_set]
    simp [-Int.natCast_add, hlt, show a < j + 1 by omega, show j + 1 < N by omega, show j < N by omega]

theorem insertion_res (N : Nat) (hN : N ≤ 4398046511104) (a b : Nat) (f : Nat → Cnt) (hab : a ≤ b) (hb : b ≤ N) (hf : okF f) :
  ∃ g, (m_zf [.i a, .i b, .l (dC N f)]).res = some (0, [.l (dC N g)]) ∧ Mv N a b g f ∧ srt cC g a b := by
 have key : ∀ s i (f : Nat → Cnt), a ≤ i → b ≤ i + s → okF f → srt cC f a i → i ≤ b ∨ i = a + 1 → ∃ g, lres rd_zf_107_1 [.i a, .i b, .i i, .l (dC N f)] = some (0, [.l (dC N g)]) ∧ Mv N a b g f ∧ srt cC g a b := by
  intro s
  induction s with
  | zero =>
   intro i f h1 h2 hf hs h3
   refine ⟨f, lres_stop ?_, Mv.refl _ _ _ _, srt_sub hs (Nat.le_refl _) (by omega)⟩
   simp [rd_zf_107_1, show ¬ (i < b) by omega]
  | succ s ih =>
   intro i f h1 h2 hf hs h3
   by_cases hi : i < b
   ·obtain ⟨g, g1, g2, g3⟩ := ins_loop N hN a b i (by omega) i f h1 (Nat.le_refl _) hf (Ins.start preC hs)
    obtain ⟨k, k1, k2, k3⟩ := ih (i + 1) g (by omega) (by omega) (hf.mv g2) g3 (by omega)
    refine ⟨k, ?_, k2.trans (g2.wide (Nat.le_refl _) (by omega)), k3⟩
    rw [← k1]
    refine lres_next ?_
    simp only [rd_zf_107_1, g1]
    simp [-Int.natCast_add, hi, w64_succ (i := i) (by omega)]
   ·refine ⟨f, lres_stop ?_, Mv.refl _ _ _ _, srt_sub hs (Nat.le_refl _) (by omega)⟩
    simp [rd_zf_107_1, hi]
 obtain ⟨g, g1, g2, g3⟩ := key b (a + 1) f (by omega) (by omega) hf (srt_one preC f (by omega)) (.inr rfl)
 refine ⟨g, ?_, g2, g3⟩
 simp only [m_zf, w64_succ (i := a) (by omega), g1]
 simp

/-! symMerge -/

theorem rt_perm (N : Nat) (hN : N ≤ 4398046511104) (f : Nat → Cnt) {s m e : Nat} (h1 : s ≤ m) (h2 : m ≤ e) (h3 : e ≤ N) : (tab N (rt f s m e)).Perm (tab N f) := by
 by_cases e1 : s = m
 ·subst e1; rw [rt_self]
 ·by_cases e2 : m = e
  ·subst e2; rw [rt_self']
  ·exact (rotate_res N f s m e (by omega) (by omega) h3 hN).2

def ltB (x y : Cnt) : Bool := decide (cC x y < 0)

theorem sm3 (N : Nat) (hN : N ≤ 4398046511104) (f : Nat → Cnt) (hf : okF f) (a lo hi : Nat) (ha : a < N) (h1 : lo ≤ hi) (h2 : hi ≤ N) :
  ∃ r, lo ≤ r ∧ r ≤ hi ∧ lres rd_zi_108_3 [.i a, .i lo, .i hi, .l (dC N f)] = some (0, [.i a, .i r, .l (dC N f)]) ∧ (lo < r → ltB (f (r - 1)) (f a) = true) ∧ (r < hi → ltB (f r) (f a) = false) := by
 refine bin_loop (fun i j => [.i a, .i i, .i j, .l (dC N f)]) (fun i => [.i a, .i i, .l (dC N f)]) (fun k => ltB (f k) (f a)) lo hi ?_ ?_ (hi - lo) lo hi (by omega) (by omega) h1 (by omega) (by omega) (by omega)
 ·intro i _ _
  simp [rd_zi_108_3]
 ·intro i j g1 g2 g3
  simp only [rd_zi_108_3, mid_eq (i := i) (j := j) (by omega) (by omega)]
  have hh : (i + j) / 2 < N := by omega
  generalize (i + j) / 2 = h at hh ⊢
  simp only [Int.toNat_natCast, dC_el N f hh, dC_el N f ha, cmpC_res _ _ (hf _), w64_succ (i := h) (by omega)]
  by_cases hc : cC (f h) (f a) < 0
  ·simp [-Int.natCast_add, g2, hh, ha, ltB, hc]
  ·simp [-Int.natCast_add, g2, hh, ha, ltB, hc]

theorem sm15 (N : Nat) (hN : N ≤ 4398046511104) (f : Nat → Cnt) (hf : okF f) (m lo hi : Nat) (ha : m < N) (h1 : lo ≤ hi) (h2 : hi ≤ N) :
  ∃ r, lo ≤ r ∧ r ≤ hi ∧ lres rd_zi_108_15 [.i m, .i lo, .i hi, .l (dC N f)] = some (0, [.i m, .i r, .l (dC N f)]) ∧ (lo < r → (!ltB (f m) (f (r - 1))) = true) ∧ (r < hi → (!ltB (f m) (f r)) = false) := by
 refine bin_loop (fun i j => [.i m, .i i, .i j, .l (dC N f)]) (fun i => [.i m, .i i, .l (dC N f)]) (fun k => !ltB (f m) (f k)) lo hi ?_ ?_ (hi - lo) lo hi (by omega) (by omega) h1 (by omega) (by omega) (by omega)
 ·intro i _ _
  simp [rd_zi_108_15]
 ·intro i j g1 g2 g3
  simp only [rd_zi_108_15, mid_eq (i := i) (j := j) (by omega) (by omega)]
  have hh : (i + j) / 2 < N := by omega
  generalize (i + j) / 2 = h at hh ⊢
  simp only [Int.toNat_natCast, dC_el N f hh, dC_el N f ha, cmpC_res _ _ (hf _), w64_succ (i := h) (by omega)]
  by_cases hc : cC (f m) (f h) < 0
  ·simp [-Int.natCast_add, g2, hh, ha, ltB, hc]
  ·simp [-Int.natCast_add, g2, hh, ha, ltB, hc]

theorem sm9 (N : Nat) (hN : N ≤ 4398046511104) (f : Nat → Cnt) (a r : Nat) (h1 : a + 1 ≤ r) (h2 : r ≤ N) :
  lres rd_zi_108_9 [.i r, .i a, .l (dC N f)] = some (0, [.l (dC N (rt f a (a + 1) r))]) := by
 have := loop_acc (rd := rd_zi_108_9) (r - a - 1) (fun t => [.i r, .i (a + t : Nat), .l (dC N (rt f a (a + 1) (a + 1 + t)))]) (some (0, [.l (dC N (rt f a (a + 1) r))]))
  (lres_stop (by
   rw [show a + 1 + (r - a - 1) = r by omega]
   simp [-Int.natCast_add, rd_zi_108_9, sub64' (a := r) (by omega) (by omega), show ¬ (a + (r - a - 1) < r - 1) by omega]))
  (fun t ht => by
   simp only [rd_zi_108_9, w64_succ (i := a + t) (by omega), sub64' (a := r) (by omega) (by omega), Int.toNat_natCast, dC_el N _ (show a + t < N by omega), dC_el N _ (show a + t + 1 < N by omega), setC, dC_set, updF_updF, rt_up]
   simp [-Int.natCast_add, show a + t < r - 1 by omega, show a + t < N by omega, show a + t + 1 < N by omega]
   rfl)
 simpa [rt_self'] using this

theorem sm21 (N : Nat) (hN : N ≤ 4398046511104) (f : Nat → Cnt) (r m : Nat) (h1 : r ≤ m) (h2 : m < N) :
  lres rd_zi_108_21 [.i r, .i m, .l (dC N f)] = some (0, [.l (dC N (rt f r m (m + 1)))]) := by
 have := loop_acc (rd := rd_zi_108_21) (m - r) (fun t => [.i r, .i (m - t : Nat), .l (dC N (rt f (m - t) m (m + 1)))]) (some (0, [.l (dC N (rt f r m (m + 1)))]))
  (lres_stop (by
   rw [show m - (m - r) = r by omega]
   simp [rd_zi_108_21]))
  (fun t ht => by
   simp only [rd_zi_108_21, sub64' (a := m - t) (by omega) (by omega), Int.toNat_natCast, dC_el N _ (show m - t < N by omega), dC_el N _ (show m - t - 1 < N by omega), setC, dC_set, updF_updF, rt_down f (show t < m by omega)]
   simp [-Int.natCast_add, show r < m - t by omega, show m - t < N by omega, show m - t - 1 < N by omega]
   rfl)
 simpa [rt_self] using this

theorem sm33 (N : Nat) (hN : N ≤ 4398046511104) (f : Nat → Cnt) (hf : okF f) (a m b mid n p lo hi : Nat) (h1 : lo ≤ hi) (h2 : hi ≤ N) (hp : hi ≤ p + 1) (hp2 : p < N + lo) (hp3 : p < 4611686018427387904) :
  ∃ r, lo ≤ r ∧ r ≤ hi ∧ lres rd_zi_108_33 [.i a, .i m, .i b, .i mid, .i n, .i lo, .i hi, .i p, .l (dC N f)] = some (0, [.i a, .i m, .i b, .i mid, .i n, .i r, .l (dC N f)]) ∧
   (lo < r → (!ltB (f (p - (r - 1))) (f (r - 1))) = true) ∧ (r < hi → (!ltB (f (p - r)) (f r)) = false) := by
 refine bin_loop (fun i j => [.i a, .i m, .i b, .i mid, .i n, .i i, .i j, .i p, .l (dC N f)]) (fun i => [.i a, .i m, .i b, .i mid, .i n, .i i, .l (dC N f)]) (fun k => !ltB (f (p - k)) (f k)) lo hi ?_ ?_ (hi - lo) lo hi (by omega) (by omega) h1 (by omega) (by omega) (by omega)
 ·intro i _ _
  simp [rd_zi_108_33]
 ·intro i j g1 g2 g3
  simp only [rd_zi_108_33, mid_eq (i := i) (j := j) (by omega) (by omega)]
  have hh : (i + j) / 2 < N := by omega
  have h5 : (i + j) / 2 ≤ p := by omega
  have h6 : p - (i + j) / 2 < N := by omega
  generalize (i + j) / 2 = h at hh h5 h6 ⊢
  simp only [sub64 (a := p) (b := h) h5 hp3, Int.toNat_natCast, dC_el N f hh, dC_el N f h6, cmpC_res _ _ (hf _), w64_succ (i := h) (by omega)]
  by_cases hc : cC (f (p - h)) (f h) < 0
  ·simp [-Int.natCast_add, g2, hh, h6, ltB, hc]
  ·simp [-Int.natCast_add, g2, hh, h6, ltB, hc]

theorem ltB_le {x y : Cnt} (h : ltB x y = true) : cC x y ≤ 0 := by
 have : cC x y < 0 := by simpa [ltB] using h
 omega
theorem ltB_ge {x y : Cnt} (h : ltB x y = false) : cC y x ≤ 0 := by
 have : ¬ cC x y < 0 := by simpa [ltB] using h
 have := preC.anti x y
 omega

/-- a part that is merged, or was sorted -/
theorem sm_part (N a m b : Nat) (mr : List U → Rt) (f : Nat → Cnt) (ih : a < m → m < b → ∃ g, (mr [.i a, .i m, .i b, .l (dC N f)]).res = some (0, [.l (dC N g)]) ∧ Mv N a b g f ∧ srt cC g a b)
  (h1 : srt cC f a m) (h2 : srt cC f m b) (ha : a ≤ m) (hb : m ≤ b) : ∃ g, Mv N a b g f ∧ srt cC g a b ∧ (a < m → m < b → (mr [.i a, .i m, .i b, .l (dC N f)]).res = some (0, [.l (dC N g)])) ∧ (¬ (a < m ∧ m < b) → g = f) := by
 by_cases h : a < m ∧ m < b
 ·obtain ⟨g, g1, g2, g3⟩ := ih h.1 h.2
  exact ⟨g, g2, g3, fun _ _ => g1, fun hn => absurd h hn⟩
 ·refine ⟨f, .refl _ _ _ _, ?_, fun h3 h4 => absurd ⟨h3, h4⟩ h, fun _ => rfl⟩
  by_cases e : a < m
  ·have : m = b := by omega
   subst this; exact h1
  ·have : m = a := by omega
   subst this; exact h2

set_option maxHeartbeats 4000000 in
theorem symMerge_res (N : Nat) (hN : N ≤ 4398046511104) : ∀ n a m b (f : Nat → Cnt), a < m → m < b → b ≤ N → b - a ≤ 2 ^ n → okF f → srt cC f a m → srt cC f m b →
  ∃ g, (recM s_zi (n + 1) [.i a, .i m, .i b, .l (dC N f)]).res = some (0, [.l (dC N g)]) ∧ Mv N a b g f ∧ srt cC g a b := by
 intro n
 induction n with
 | zero => intro a m b f h1 h2 h3 h4; simp at h4; omega
 | succ n ih =>
  intro a m b f h1 h2 h3 h4 hf hs1 hs2
  have hp2 : (2 : Nat) ^ (n + 1) = 2 ^ n + 2 ^ n := by rw [Nat.pow_succ]; omega
  rw [hp2] at h4
  generalize (2 : Nat) ^ n = w at ih h4
  show ∃ g, (s_zi (recM s_zi (n + 1)) [.i a, .i m, .i b, .l (dC N f)]).res = some (0, [.l (dC N g)]) ∧ Mv N a b g f ∧ srt cC g a b
  generalize recM s_zi (n + 1) = mr at ih ⊢
  by_cases c1 : m - a = 1
  ·have hm : m = a + 1 := by omega
   subst hm
   obtain ⟨r, r1, r2, r3, r4, r5⟩ := sm3 N hN f hf a (a + 1) b (by omega) (by omega) h3
   have hS : Split cC f a a (a + 1) r b := ⟨Nat.le_refl _, by omega, r1, r2, hs1, hs2, .inl rfl, by
    by_cases e : r = a + 1
    ·exact .inl e
    ·exact .inr (.inr (ltB_le (r4 (by omega))))⟩
   have hx := hS.cross preC
   have hYW : srt cC (rt f a (a + 1) r) (a + (r - (a + 1))) b := by
    refine srt_app hS.py hS.pw fun i j g1 g2 g3 g4 => ?_
    rw [rt_y f g1 g2, rt_w f (by omega) r1 g3]
    have e : i - (r - (a + 1)) = a := by omega
    rw [e]
    exact preC.trans _ _ _ (ltB_ge (r5 (by omega))) (hs2 r j r1 g3 g4)
   refine ⟨rt f a (a + 1) r, ?_, Mv.rt f (Nat.le_refl _) (by omega) r1 r2 (rt_perm N hN f (by omega) r1 (by omega)), srt_app hS.pz hYW hx⟩
   simp only [s_zi, sub64 (a := a + 1) (b := a) (by omega) (by omega), r3]
   have e9 := sm9 N hN f a r r1 (by omega)
   simp [-Int.natCast_add, e9]
  ·by_cases c2 : b - m = 1
   ·have hb : b = m + 1 := by omega
    subst hb
    obtain ⟨r, r1, r2, r3, r4, r5⟩ := sm15 N hN f hf m a m (by omega) (by omega) (by omega)
    have hS : Split cC f a r m (m + 1) (m + 1) := ⟨r1, r2, by omega, Nat.le_refl _, hs1, hs2, .inr (.inl rfl), by
     by_cases e : r = m
     ·exact .inr (.inl e)
     ·exact .inr (.inr (ltB_le (by simpa using r5 (by omega))))⟩
    have hx := hS.cross preC
    have hXZ : srt cC (rt f r m (m + 1)) a (r + (m + 1 - m)) := by
     refine srt_app hS.px hS.pz fun i j g1 g2 g3 g4 => ?_
     rw [rt_x f g2, rt_z f g3 g4]
     have e : j + m - r = m := by omega
     rw [e]
     exact preC.trans _ _ _ (hs1 i (r - 1) g1 (by omega) (by omega)) (ltB_ge (by simpa using r4 (by omega)))
    refine ⟨rt f r m (m + 1), ?_, Mv.rt f r1 r2 (by omega) (Nat.le_refl _) (rt_perm N hN f r2 (by omega) h3), srt_app hXZ hS.py hx⟩
    have e15 := sm21 N hN f r m r2 (by omega)
    simp only [s_zi, sub64 (a := m) (b := a) (by omega) (by omega), sub64 (a := m + 1) (b := m) (by omega) (by omega), r3]
    simp [-Int.natCast_add, e15, show ¬ ((m - a : Nat) : Int) = 1 by omega]
   ·-- the halves
    have hmid : (a + b) / 2 < b := by omega
    have hmid2 : a < (a + b) / 2 := by omega
    have hw1 : (a + b) / 2 - a ≤ w := by omega
    have hw2 : b - (a + b) / 2 ≤ w := by omega
    have hq : ∃ r, (if (a + b) / 2 < m then (a + b) / 2 + m - b else a) ≤ r ∧ r ≤ (if (a + b) / 2 < m then (a + b) / 2 else m) ∧
      lres rd_zi_108_33 [.i a, .i m, .i b, .i ((a + b) / 2 : Nat), .i ((a + b) / 2 + m : Nat), .i (if (a + b) / 2 < m then (a + b) / 2 + m - b else a : Nat), .i (if (a + b) / 2 < m then (a + b) / 2 else m : Nat), .i ((a + b) / 2 + m - 1 : Nat), .l (dC N f)] =
       some (0, [.i a, .i m, .i b, .i ((a + b) / 2 : Nat), .i ((a + b) / 2 + m : Nat), .i r, .l (dC N f)]) ∧
      ((if (a + b) / 2 < m then (a + b) / 2 + m - b else a) < r → (!ltB (f ((a + b) / 2 + m - 1 - (r - 1))) (f (r - 1))) = true) ∧ (r < (if (a + b) / 2 < m then (a + b) / 2 else m) → (!ltB (f ((a + b) / 2 + m - 1 - r)) (f r)) = false) := by
     apply sm33 N hN f hf <;> first | omega | (split <;> omega)
    have hmm : (a + b) / 2 * 2 ≤ a + b ∧ a + b ≤ (a + b) / 2 * 2 + 1 := by omega
    have hme := mid_eq (i := a) (j := b) (by omega) (by omega)
    generalize (a + b) / 2 = mid at hmid hmid2 hw1 hw2 hq hmm hme
    obtain ⟨r, r1, r2, r3, r4, r5⟩ := hq
    have o2 : r ≤ m := by split at r2 <;> omega
    have o1 : a ≤ r := by split at r1 <;> omega
    have o3 : m ≤ mid + m - r := by split at r2 <;> omega
    have o4 : mid + m - r ≤ b := by split at r1 <;> omega
    have hS : Split cC f a r m (mid + m - r) b := ⟨o1, o2, o3, o4, hs1, hs2, by
      by_cases e : (if mid < m then mid + m - b else a) < r
      ·have := ltB_ge (by simpa using r4 e)
       rw [show mid + m - 1 - (r - 1) = mid + m - r by omega] at this
       exact .inr (.inr this)
      ·split at e
       ·exact .inr (.inl (by omega))
       ·exact .inl (by omega), by
      by_cases e : r < (if mid < m then mid else m)
      ·have := ltB_le (by simpa using r5 e)
       rw [show mid + m - 1 - r = mid + m - r - 1 by omega] at this
       exact .inr (.inr this)
      ·split at e
       ·exact .inl (by omega)
       ·exact .inr (.inl (by omega))⟩
    have hx := hS.cross preC
    have hpx := hS.px
    have hpz := hS.pz
    have hpy := hS.py
    have hpw := hS.pw
    have hmv := Mv.rt (N := N) f o1 o2 o3 o4 (rt_perm N hN f o2 o3 (by omega))
    have hmd : r + (mid + m - r - m) = mid := by omega
    rw [hmd] at hx hpz hpy
    have hrot : (r < m ∧ m < mid + m - r) → (m_zh [.i r, .i m, .i (mid + m - r : Nat), .l (dC N f)]).res = some (0, [.l (dC N (rt f r m (mid + m - r)))]) := fun h => (rotate_res N f r m (mid + m - r) h.1 h.2 (by omega) hN).1
    have hrot' : ¬ (r < m ∧ m < mid + m - r) → rt f r m (mid + m - r) = f := fun h => by
     by_cases e : r = m
     ·rw [e, rt_self]
     ·rw [show mid + m - r = m by omega, rt_self']
    generalize hg1 : rt f r m (mid + m - r) = g1 at *
    have hf1 := hf.mv hmv
    obtain ⟨g2, a1, a2, a3, a4⟩ := sm_part N a r mid mr g1 (fun e1 e2 => ih a r mid g1 e1 e2 (by omega) hw1 hf1 hpx hpz) hpx hpz o1 (by omega)
    have hf2 := hf1.mv a1
    have hpy2 : srt cC g2 mid (mid + m - r) := srt_congr hpy fun k h1 h2 => a1.out k (.inr h1)
    have hpw2 : srt cC g2 (mid + m - r) b := srt_congr hpw fun k h1 h2 => a1.out k (.inr (by omega))
    obtain ⟨g3, b1, b2, b3, b4⟩ := sm_part N mid (mid + m - r) b mr g2 (fun e1 e2 => ih mid (mid + m - r) b g2 e1 e2 h3 hw2 hf2 hpy2 hpw2) hpy2 hpw2 (by omega) o4
    have hfin : srt cC g3 a b := by
     refine srt_app (srt_congr a2 fun k h1 h2 => b1.out k (.inl h2)) b2 (cross_mv (N := N) hx (fun k h1 h2 => ?_) (fun k h1 h2 => ?_))
     ·rw [b1.out k (.inl h2)]; exact a1.frm k h1 h2
     ·obtain ⟨k', d1, d2, d3⟩ := b1.frm k h1 h2
      exact ⟨k', d1, d2, by rw [d3, a1.out k' (.inr d1)]⟩
    refine ⟨g3, ?_, (b1.wide (by omega) (Nat.le_refl _)).trans ((a1.wide (Nat.le_refl _) (by omega)).trans hmv), hfin⟩
    have q1 : (r < m ∧ m < mid + m - r) ∧ (m_zh [.i r, .i m, .i (mid + m - r : Nat), .l (dC N f)]).res = some (0, [.l (dC N g1)]) ∨ ¬ (r < m ∧ m < mid + m - r) ∧ g1 = f := by
     by_cases e : r < m ∧ m < mid + m - r
     ·exact .inl ⟨e, hrot e⟩
     ·exact .inr ⟨e, hrot' e⟩
    have q2 : (a < r ∧ r < mid) ∧ (mr [.i a, .i r, .i mid, .l (dC N g1)]).res = some (0, [.l (dC N g2)]) ∨ ¬ (a < r ∧ r < mid) ∧ g2 = g1 := by
     by_cases e : a < r ∧ r < mid
     ·exact .inl ⟨e, a3 e.1 e.2⟩
     ·exact .inr ⟨e, a4 e⟩
    have q3 : (mid < mid + m - r ∧ mid + m - r < b) ∧ (mr [.i mid, .i (mid + m - r : Nat), .i b, .l (dC N g2)]).res = some (0, [.l (dC N g3)]) ∨ ¬ (mid < mid + m - r ∧ mid + m - r < b) ∧ g3 = g2 := by
     by_cases e : mid < mid + m - r ∧ mid + m - r < b
     ·exact .inl ⟨e, b3 e.1 e.2⟩
     ·exact .inr ⟨e, b4 e⟩
    have n1 : ¬ ((m - a : Nat) : Int) = 1 := by omega
    have n2 : ¬ ((b - m : Nat) : Int) = 1 := by omega
    have w1 : w64 ((mid : Int) + (m : Int)) = ((mid + m : Nat) : Int) := add64 (by omega)
    have w2 : w64 (((mid + m : Nat) : Int) - 1) = ((mid + m - 1 : Nat) : Int) := sub64' (by omega) (by omega)
    have w3 : w64 (((mid + m : Nat) : Int) - (r : Int)) = ((mid + m - r : Nat) : Int) := sub64 (by omega) (by omega)
    have w4 : mid < m → w64 (((mid + m : Nat) : Int) - (b : Int)) = ((mid + m - b : Nat) : Int) := fun h => sub64 (by omega) (by omega)
    generalize he : mid + m - r = e at *
    clear ih a3 a4 b3 b4 hrot hrot' hx hpx hpz hpy hpw hS hs1 hs2 hpy2 hpw2 hfin a1 b1 a2 b2 hmv r4 r5
    simp only [s_zi, sub64 (a := m) (b := a) (by omega) (by omega), sub64 (a := b) (b := m) (by omega) (by omega), hme, w1, w2]
    by_cases c3 : mid < m
    ·simp only [if_pos c3] at r3
     simp only [w4 c3, r3]
     by_cases hA : r < m <;> by_cases hA2 : m < e <;> by_cases hB : a < r <;> by_cases hB2 : r < mid <;> by_cases hC : mid < e <;> by_cases hC2 : e < b <;>
      simp [hA, hA2, hB, hB2, hC, hC2] at q1 q2 q3 <;> (try subst q1) <;> (try subst q2) <;> (try subst q3) <;> (first | simp [-Int.natCast_add, n1, n2, c3, w3, hA, hA2, hB, hB2, hC, hC2, q1, q2, q3] | simp [-Int.natCast_add, n1, n2, c3, w3, hA, hA2, hB, hB2, hC, hC2, q1, q2] | simp [-Int.natCast_add, n1, n2, c3, w3, hA, hA2, hB, hB2, hC, hC2, q1, q3] | simp [-Int.natCast_add, n1, n2, c3, w3, hA, hA2, hB, hB2, hC, hC2, q2, q3] | simp [-Int.natCast_add, n1, n2, c3, w3, hA, hA2, hB, hB2, hC, hC2, q1] | simp [-Int.natCast_add, n1, n2, c3, w3, hA, hA2, hB, hB2, hC, hC2, q2] | simp [-Int.natCast_add, n1, n2, c3, w3, hA, hA2, hB, hB2, hC, hC2, q3] | simp [-Int.natCast_add, n1, n2, c3, w3, hA, hA2, hB, hB2, hC, hC2])
    ·simp only [if_neg c3] at r3
     simp only [r3]
     by_cases hA : r < m <;> by_cases hA2 : m < e <;> by_cases hB : a < r <;> by_cases hB2 : r < mid <;> by_cases hC : mid < e <;> by_cases hC2 : e < b <;>
      simp [hA, hA2, hB, hB2, hC, hC2] at q1 q2 q3 <;> (try subst q1) <;> (try subst q2) <;> (try subst q3) <;> (first | simp [-Int.natCast_add, n1, n2, c3, w3, hA, hA2, hB, hB2, hC, hC2, q1, q2, q3] | simp [-Int.natCast_add, n1, n2, c3, w3, hA, hA2, hB, hB2, hC, hC2, q1, q2] | simp [-Int.natCast_add, n1, n2, c3, w3, hA, hA2, hB, hB2, hC, hC2, q1, q3] | simp [-Int.natCast_add, n1, n2, c3, w3, hA, hA2, hB, hB2, hC, hC2, q2, q3] | simp [-Int.natCast_add, n1, n2, c3, w3, hA, hA2, hB, hB2, hC, hC2, q1] | simp [-Int.natCast_add, n1, n2, c3, w3, hA, hA2, hB, hB2, hC, hC2, q2] | simp [-Int.natCast_add, n1, n2, c3, w3, hA, hA2, hB, hB2, hC, hC2, q3] | simp [-Int.natCast_add, n1, n2, c3, w3, hA, hA2, hB, hB2, hC, hC2])

end Go.Proofs.YtkaljlpbmbfpgaaGreatDoor

set_option linter.unusedSimpArgs false
set_option linter.unusedVariables false
namespace Go.Proofs.YtkaljlpbmbfpgaaGreatDoor
open Go Go.Pu

/-- each block of w is sorted -/
def bls (f : Nat → Cnt) (w n a b : Nat) : Prop := ∀ t, a ≤ t * w → t * w < b → srt cC f (t * w) (min (t * w + w) n)

theorem st2 (N : Nat) (hN : N ≤ 4398046511104) (n : Nat) (hn : n ≤ N) : ∀ s t (f : Nat → Cnt), n ≤ t * 20 + s → t * 20 ≤ n → okF f → bls f 20 n 0 (t * 20) →
  ∃ g t', lres rd_zj_96_2 [.i n, .i (20 : Nat), .i (t * 20 : Nat), .i (t * 20 + 20 : Nat), .l (dC N f)] = some (0, [.i n, .i (20 : Nat), .i (t' * 20 : Nat), .l (dC N g)]) ∧
   t' * 20 ≤ n ∧ n < t' * 20 + 20 ∧ Mv N 0 n g f ∧ bls g 20 n 0 (t' * 20) := by
 intro s
 induction s with
 | zero =>
  intro t f h1 h2 hf hb
  refine ⟨f, t, lres_stop ?_, h2, by omega, .refl _ _ _ _, hb⟩
  simp [-Int.natCast_add, -Int.natCast_mul, rd_zj_96_2, show ¬ (t * 20 + 20 ≤ n) by omega]
 | succ s ih =>
  intro t f h1 h2 hf hb
  by_cases e : t * 20 + 20 ≤ n
  ·obtain ⟨g, g1, g2, g3⟩ := insertion_res N hN (t * 20) (t * 20 + 20) f (by omega) (by omega) hf
   have hb2 : bls g 20 n 0 ((t + 1) * 20) := by
    intro u u1 u2
    by_cases e2 : u = t
    ·subst e2; exact srt_sub g3 (Nat.le_refl _) (by omega)
    ·refine srt_congr (hb u u1 (by omega)) fun k k1 k2 => g2.out k (.inl (by omega))
   obtain ⟨k, t', k1, k2, k3, k4, k5⟩ := ih (t + 1) g (by omega) (by omega) (hf.mv g2) hb2
   refine ⟨k, t', ?_, k2, k3, k4.trans (g2.wide (by omega) e), k5⟩
   rw [← k1, show (t + 1) * 20 = t * 20 + 20 by omega]
   refine lres_next ?_
   have w1 : w64 (((t * 20 + 20 : Nat) : Int) + ((20 : Nat) : Int)) = ((t * 20 + 20 + 20 : Nat) : Int) := add64 (by omega)
   generalize t * 20 = x at *
   simp only [rd_zj_96_2, g1, w1]
   simp [-Int.natCast_add, e]
  ·refine ⟨f, t, lres_stop ?_, h2, by omega, .refl _ _ _ _, hb⟩
   generalize t * 20 = x at *
   simp [-Int.natCast_add, rd_zj_96_2, e]

theorem merge_res (N : Nat) (hN : N ≤ 4398046511104) (a m b : Nat) (f : Nat → Cnt) (h1 : a < m) (h2 : m < b) (h3 : b ≤ N) (hf : okF f) (hs1 : srt cC f a m) (hs2 : srt cC f m b) :
  ∃ g, (m_zi [.i a, .i m, .i b, .l (dC N f)]).res = some (0, [.l (dC N g)]) ∧ Mv N a b g f ∧ srt cC g a b :=
 symMerge_res N hN 63 a m b f h1 h2 h3 (by have : (2 : Nat) ^ 63 = 9223372036854775808 := by decide
                                           omega) hf hs1 hs2

theorem st9 (N : Nat) (hN : N ≤ 4398046511104) (n : Nat) (hn : n ≤ N) (w : Nat) (hw : 0 < w) (hwn : w < n) : ∀ s t (f : Nat → Cnt), n ≤ t * (2 * w) + s → t * (2 * w) ≤ n → okF f → bls f (2 * w) n 0 (t * (2 * w)) → bls f w n (t * (2 * w)) n →
  ∃ g t', lres rd_zj_96_9 [.i n, .i w, .i (t * (2 * w) : Nat), .i (t * (2 * w) + 2 * w : Nat), .l (dC N f)] = some (0, [.i n, .i w, .i (t' * (2 * w) : Nat), .l (dC N g)]) ∧
   t' * (2 * w) ≤ n ∧ n < t' * (2 * w) + 2 * w ∧ Mv N 0 n g f ∧ bls g (2 * w) n 0 (t' * (2 * w)) ∧ bls g w n (t' * (2 * w)) n := by
 intro s
 induction s with
 | zero =>
  intro t f h1 h2 hf hb hc
  refine ⟨f, t, lres_stop ?_, h2, by omega, .refl _ _ _ _, hb, hc⟩
  generalize t * (2 * w) = x at *
  simp [-Int.natCast_add, -Int.natCast_mul, rd_zj_96_9, show ¬ (x + 2 * w ≤ n) by omega]
 | succ s ih =>
  intro t f h1 h2 hf hb hc
  by_cases e : t * (2 * w) + 2 * w ≤ n
  ·have p1 : (2 * t) * w = t * (2 * w) := by rw [Nat.mul_comm 2 t, Nat.mul_assoc]
   have p2 : (2 * t + 1) * w = t * (2 * w) + w := by rw [Nat.add_mul, p1, Nat.one_mul]
   have p3 : (t + 1) * (2 * w) = t * (2 * w) + 2 * w := by rw [Nat.add_mul, Nat.one_mul]
   have s1 := hc (2 * t) (by omega) (by omega)
   have s2 := hc (2 * t + 1) (by omega) (by omega)
   rw [p1] at s1
   rw [p2] at s2
   obtain ⟨g, g1, g2, g3⟩ := merge_res N hN (t * (2 * w)) (t * (2 * w) + w) (t * (2 * w) + 2 * w) f (by omega) (by omega) (by omega) hf (srt_sub s1 (Nat.le_refl _) (by omega)) (srt_sub s2 (Nat.le_refl _) (by omega))
   have hb2 : bls g (2 * w) n 0 ((t + 1) * (2 * w)) := by
    intro u u1 u2
    by_cases e2 : u = t
    ·subst e2; exact srt_sub g3 (Nat.le_refl _) (by omega)
    ·have hlt : u < t + 1 := Nat.lt_of_mul_lt_mul_right u2
     have hle : (u + 1) * (2 * w) ≤ t * (2 * w) := Nat.mul_le_mul_right _ (by omega)
     rw [Nat.add_mul, Nat.one_mul] at hle
     exact srt_congr (hb u u1 (by omega)) fun k k1 k2 => g2.out k (.inl (by omega))
   have hc2 : bls g w n ((t + 1) * (2 * w)) n := by
    intro u u1 u2
    exact srt_congr (hc u (by omega) u2) fun k k1 k2 => g2.out k (.inr (by omega))
   obtain ⟨k, t', k1, k2, k3, k4, k5, k6⟩ := ih (t + 1) g (by omega) (by omega) (hf.mv g2) hb2 hc2
   refine ⟨k, t', ?_, k2, k3, k4.trans (g2.wide (by omega) e), k5, k6⟩
   rw [← k1, p3]
   refine lres_next ?_
   have w0 : w64 ((2 : Int) * (w : Int)) = ((2 * w : Nat) : Int) := by rw [w64_eq (by omega) (by omega)]; omega
   clear p1 p2 p3 s1 s2 hb2 hc2 k1 ih hb hc
   generalize t * (2 * w) = x at *
   have w1 : w64 (((x + 2 * w : Nat) : Int) + ((2 * w : Nat) : Int)) = ((x + 2 * w + 2 * w : Nat) : Int) := add64 (by omega)
   have w2 : w64 ((x : Int) + (w : Int)) = ((x + w : Nat) : Int) := add64 (by omega)
   simp only [rd_zj_96_9, w0, w1, w2, g1]
   simp [-Int.natCast_add, -Int.natCast_mul, e]
  ·refine ⟨f, t, lres_stop ?_, h2, by omega, .refl _ _ _ _, hb, hc⟩
   generalize t * (2 * w) = x at *
   simp [-Int.natCast_add, -Int.natCast_mul, rd_zj_96_9, e]

theorem st7 (N : Nat) (hN : N ≤ 4398046511104) (n : Nat) (hn : n ≤ N) : ∀ s w (f : Nat → Cnt), n ≤ w + s → 0 < w → w < 8796093022208 → okF f → bls f w n 0 n →
  ∃ g, lres rd_zj_96_7 [.i n, .i w, .l (dC N f)] = some (0, [.l (dC N g)]) ∧ Mv N 0 n g f ∧ srt cC g 0 n := by
 intro s
 have fin : ∀ w (f : Nat → Cnt), n ≤ w → 0 < w → bls f w n 0 n → ∃ g, lres rd_zj_96_7 [.i n, .i w, .l (dC N f)] = some (0, [.l (dC N g)]) ∧ Mv N 0 n g f ∧ srt cC g 0 n := by
  intro w f h1 h2 hb
  refine ⟨f, lres_stop ?_, .refl _ _ _ _, ?_⟩
  ·simp [rd_zj_96_7, show ¬ (w < n) by omega]
  ·by_cases e : 0 < n
   ·exact srt_sub (hb 0 (by omega) (by omega)) (by omega) (by omega)
   ·exact srt_one preC f (by omega)
 induction s with
 | zero => intro w f h1 h2 h3 hf hb; exact fin w f (by omega) h2 hb
 | succ s ih =>
  intro w f h1 h2 h3 hf hb
  by_cases e : w < n
  ·obtain ⟨g, t', g1, g2, g3, g4, g5, g6⟩ := st9 N hN n hn w h2 e n 0 f (by omega) (by omega) hf (fun u u1 u2 => by omega) (by simpa using hb)
   have hfg := hf.mv g4
   rw [Nat.zero_mul, Nat.zero_add] at g1
   have p1 : (2 * t') * w = t' * (2 * w) := by rw [Nat.mul_comm 2 t', Nat.mul_assoc]
   have p2 : (2 * t' + 1) * w = t' * (2 * w) + w := by rw [Nat.add_mul, p1, Nat.one_mul]
   have w0 : w64 ((2 : Int) * (w : Int)) = ((2 * w : Nat) : Int) := by rw [w64_eq (by omega) (by omega)]; omega
   have w3 : w64 ((w : Int) * (2 : Int)) = ((2 * w : Nat) : Int) := by rw [w64_eq (by omega) (by omega)]; omega
   have w2 : w64 (((t' * (2 * w) : Nat) : Int) + (w : Int)) = ((t' * (2 * w) + w : Nat) : Int) := add64 (by omega)
   have nxt : ∃ k, (t' * (2 * w) + w < n → (m_zi [.i (t' * (2 * w) : Nat), .i (t' * (2 * w) + w : Nat), .i n, .l (dC N g)]).res = some (0, [.l (dC N k)])) ∧ (¬ t' * (2 * w) + w < n → k = g) ∧ Mv N (t' * (2 * w)) n k g ∧ srt cC k (t' * (2 * w)) n := by
    by_cases e2 : t' * (2 * w) + w < n
    ·have s1 := g6 (2 * t') (by omega) (by omega)
     have s2 := g6 (2 * t' + 1) (by omega) (by omega)
     rw [p1] at s1
     rw [p2] at s2
     obtain ⟨k, k1, k2, k3⟩ := merge_res N hN (t' * (2 * w)) (t' * (2 * w) + w) n g (by omega) e2 hn hfg (srt_sub s1 (Nat.le_refl _) (by omega)) (srt_sub s2 (Nat.le_refl _) (by omega))
     exact ⟨k, fun _ => k1, fun h => absurd e2 h, k2, k3⟩
    ·refine ⟨g, fun h => absurd h e2, fun _ => rfl, .refl _ _ _ _, ?_⟩
     by_cases e3 : t' * (2 * w) < n
     ·have s1 := g6 (2 * t') (by omega) (by omega)
      rw [p1] at s1
      exact srt_sub s1 (Nat.le_refl _) (by omega)
     ·exact srt_one preC g (by omega)
   obtain ⟨k, k1, k2, k3, k4⟩ := nxt
   have hb2 : bls k (2 * w) n 0 n := by
    intro u u1 u2
    by_cases e2 : u = t'
    ·subst e2; exact srt_sub k4 (Nat.le_refl _) (by omega)
    ·have hlt : u < t' + 1 := by
      have p3 : (t' + 1) * (2 * w) = t' * (2 * w) + 2 * w := by rw [Nat.add_mul, Nat.one_mul]
      exact Nat.lt_of_mul_lt_mul_right (a := 2 * w) (by omega)
     have hle : (u + 1) * (2 * w) ≤ t' * (2 * w) := Nat.mul_le_mul_right _ (by omega)
     rw [Nat.add_mul, Nat.one_mul] at hle
     exact srt_congr (g5 u u1 (by omega)) fun i i1 i2 => k3.out i (.inl (by omega))
   obtain ⟨l, l1, l2, l3⟩ := ih (2 * w) k (by omega) (by omega) (by omega) (hfg.mv k3) hb2
   refine ⟨l, ?_, l2.trans ((k3.wide (by omega) (Nat.le_refl _)).trans g4), l3⟩
   rw [← l1]
   refine lres_next ?_
   have z : ((0 : Nat) : Int) = 0 := rfl
   rw [z] at g1
   simp only [rd_zj_96_7, w0, g1]
   clear p1 p2 hb2 g5 g6 hb ih fin
   generalize t' * (2 * w) = x at *
   by_cases e2 : x + w < n
   ·simp [-Int.natCast_add, -Int.natCast_mul, e, w2, w3, e2, k1 e2]
   ·have := k2 e2
    subst this
    simp [-Int.natCast_add, -Int.natCast_mul, e, w2, w3, e2]
  ·exact fin w f (by omega) h2 hb

theorem stable_res (N : Nat) (hN : N ≤ 4398046511104) (f : Nat → Cnt) (hf : okF f) :
  ∃ g, (m_zj [.i N, .l (dC N f)]).res = some (0, [.l (dC N g)]) ∧ Mv N 0 N g f ∧ srt cC g 0 N := by
 obtain ⟨g, t', g1, g2, g3, g4, g5⟩ := st2 N hN N (Nat.le_refl _) N 0 f (by omega) (by omega) hf (fun u u1 u2 => by omega)
 rw [Nat.zero_mul, Nat.zero_add] at g1
 obtain ⟨k, k1, k2, k3⟩ := insertion_res N hN (t' * 20) N g g2 (Nat.le_refl _) (hf.mv g4)
 have hb : bls k 20 N 0 N := by
  intro u u1 u2
  by_cases e : u = t'
  ·subst e; exact srt_sub k3 (Nat.le_refl _) (by omega)
  ·exact srt_congr (g5 u u1 (by omega)) fun i i1 i2 => k2.out i (.inl (by omega))
 obtain ⟨l, l1, l2, l3⟩ := st7 N hN N (Nat.le_refl _) N 20 k (by omega) (by omega) (by omega) ((hf.mv g4).mv k2) hb
 refine ⟨l, ?_, l2.trans ((k2.wide (by omega) (Nat.le_refl _)).trans g4), l3⟩
 have z : ((0 : Nat) : Int) = 0 := rfl
 have z2 : ((20 : Nat) : Int) = 20 := rfl
 rw [z, z2] at g1
 rw [z2] at l1
 generalize t' * 20 = x at *
 simp only [m_zj, g1]
 simp [-Int.natCast_add, -Int.natCast_mul, k1, l1]

/-- what is sorted: it rises, and is what there was -/
theorem sort_res (b : List Cnt) (hb : okB b) : ∃ b' : List Cnt, (m_zk [.l (b.map Cnt.e)]).res = some (0, [.l (b'.map Cnt.e)]) ∧ b'.Perm b ∧ b'.Pairwise fun x y => cmpR x.row y.row ≤ 0 := by
 have ht := tab_of b ⟨[], 0⟩
 have hf : okF (fun i => b.getD i ⟨[], 0⟩) := by
  intro k
  simp only [List.getD]
  cases h : b[k]? with
  | none => simp
  | some x => exact (hb.2 x (List.mem_of_getElem? h)).1.1
 obtain ⟨g, g1, g2, g3⟩ := stable_res b.length hb.1 (fun i => b.getD i ⟨[], 0⟩) hf
 refine ⟨tab b.length g, ?_, ?_, ?_⟩
 ·have e : b.map Cnt.e = dC b.length (fun i => b.getD i ⟨[], 0⟩) := by unfold dC; rw [ht]
  rw [e]
  simp only [m_zk, dC_ln, g1]
  simp [dC]
 ·have := g2.perm; rwa [ht] at this
 ·rw [List.pairwise_iff_getElem]
  intro i j h1 h2 h3
  rw [tab_get, tab_get]
  exact g3 i j (by omega) (by omega) (by simpa using h2)

end Go.Proofs.YtkaljlpbmbfpgaaGreatDoor

set_option linter.unusedVariables false
set_option linter.unusedSimpArgs false
namespace Go.Proofs.YtkaljlpbmbfpgaaGreatDoor
open Go Go.Pu

theorem map_app_e (a b : List Cnt) : (a ++ b).map Cnt.e = a.map Cnt.e ++ b.map Cnt.e := List.map_append
theorem row_e (c : Cnt) : cL c.e 0 = re c.row := rfl
theorem n_e (c : Cnt) : cI c.e 1 = c.n := rfl
theorem one_e (r : List Val) (n : Int) : [Cnt.e ⟨r, n⟩] = [[PV.lst 39 (re r), pI n]] := rfl

theorem sum_inner (S : List Cnt) (hS : okB S) (out : List (List PV)) (r : List Val) : ∀ m i (acc : Int), S.length - i = m → i ≤ S.length → acc.natAbs + absN (S.drop i) ≤ 4611686018427387904 →
  lres rd_zm_56_7 [.i (i : Nat), .l (S.map Cnt.e), .l out, .i acc, .l (re r)] =
   some (0, [.i ((i + ((S.drop i).takeWhile fun d => decide (d.row = r)).length : Nat) : Int), .l (S.map Cnt.e), .l out, .i (acc + sumN ((S.drop i).takeWhile fun d => decide (d.row = r))), .l (re r)]) := by
 have hn := hS.1
 intro m
 induction m with
 | zero =>
  intro i acc h1 h2 h3
  have : i = S.length := by omega
  subst this
  rw [List.drop_length]
  refine lres_stop ?_
  simp [rd_zm_56_7, sumN]
 | succ m ih =>
  intro i acc h1 h2 h3
  have h : i < S.length := by omega
  have hlm : i < (S.map Cnt.e).length := by simpa using h
  have hd := List.drop_eq_getElem_cons h
  have hc := row_Compare_res S[i].row r (hS.2 _ (List.getElem_mem h)).1.1
  rw [hd] at h3 ⊢
  simp only [absN] at h3
  by_cases e : S[i].row = r
  ·have h0 : cmpR S[i].row r = 0 := (cR.zero _ _).2 e
   have w : w64 (acc + S[i].n) = acc + S[i].n := w64_eq (by omega) (by omega)
   have hr : (rd_zm_56_7 [.i (i : Nat), .l (S.map Cnt.e), .l out, .i acc, .l (re r)]).val = some (.next [.i ((i + 1 : Nat) : Int), .l (S.map Cnt.e), .l out, .i (acc + S[i].n), .l (re r)]) := by
    simp only [rd_zm_56_7, rt_test, rt_next, rt_stop, el_map _ _ h, row_e, n_e, ln_map, inR_cast, Int.ofNat_lt, h, hlm, decide_true, if_true, Int.toNat_natCast, hc, h0, ok_some', out_some, uI_0, beq_self_eq_true, w, w64_succ (i := i) (by omega)]
   rw [lres_next hr, ih (i + 1) (acc + S[i].n) (by omega) (by omega) (by omega)]
   rw [List.takeWhile_cons, if_pos (by simpa using e), List.length_cons]
   unfold sumN
   rw [List.map_cons, List.sum_cons]
   congr 2
   ·congr 2
    ·omega
    ·congr 3; omega
  ·have h0 : ¬ cmpR S[i].row r = 0 := fun h => e ((cR.zero _ _).1 h)
   have h0' : (cmpR S[i].row r == 0) = false := by rw [beq_eq_false_iff_ne]; exact h0
   rw [List.takeWhile_cons, if_neg (by simpa using e)]
   refine lres_stop ?_
   simp only [rd_zm_56_7, rt_test, rt_next, rt_stop, el_map _ _ h, row_e, n_e, ln_map, inR_cast, Int.ofNat_lt, h, hlm, decide_true, if_true, Int.toNat_natCast, hc, h0', ok_some', out_some, uI_0, beq_self_eq_true, Bool.false_eq_true, if_false]
   simp [sumN]

theorem sum_outer (S : List Cnt) (hS : okB S) (ha : absN S ≤ 4611686018427387904) : ∀ n i (o : List Cnt), S.length - i ≤ n → i ≤ S.length → o.length ≤ i →
  lres rd_zm_56_5 [.i (i : Nat), .l (S.map Cnt.e), .l (o.map Cnt.e)] = some (0, [.l ((o ++ grp n (S.drop i)).map Cnt.e)]) := by
 have hn := hS.1
 intro n
 induction n with
 | zero =>
  intro i o h1 h2 h3
  have : i = S.length := by omega
  subst this
  refine lres_stop ?_
  simp [rd_zm_56_5, grp]
 | succ n ih =>
  intro i o h1 h2 h3
  by_cases h : i < S.length
  ·have hlm : i < (S.map Cnt.e).length := by simpa using h
   have hd := List.drop_eq_getElem_cons h
   have hb := (hS.2 _ (List.getElem_mem h)).1.1
   have habs := absN_app (S.take i) (S.drop i)
   rw [List.take_append_drop] at habs
   have hin := sum_inner S hS (o.map Cnt.e) S[i].row (S.length - i) i 0 rfl h2 (by simp; omega)
   have e1 : (0 + (re S[i].row).length) * 32 ≤ 140737488355328 := by simp [re]; omega
   have e2 : ((o.map Cnt.e).length + 1) * 32 ≤ 140737488355328 := by rw [List.length_map]; omega
   rw [hd] at hin ⊢
   rw [grp]
   rw [List.takeWhile_cons, if_pos (by simp), List.length_cons] at hin
   have hsum : sumN (S[i] :: (S.drop (i + 1)).takeWhile fun d => decide (d.row = S[i].row)) = S[i].n + sumN ((S.drop (i + 1)).takeWhile fun d => decide (d.row = S[i].row)) := by
    unfold sumN; rw [List.map_cons, List.sum_cons]
   rw [hsum, Int.zero_add] at hin
   generalize hT : (S.drop (i + 1)).takeWhile (fun d => decide (d.row = S[i].row)) = T at *
   have hdw : S.drop (i + (T.length + 1)) = (S.drop (i + 1)).dropWhile fun d => decide (d.row = S[i].row) := by
    have a1 : S.drop (i + 1) = T ++ (S.drop (i + 1)).dropWhile fun d => decide (d.row = S[i].row) := by rw [← hT, List.takeWhile_append_dropWhile]
    have a2 : (S.drop (i + 1)).drop T.length = (S.drop (i + 1)).dropWhile fun d => decide (d.row = S[i].row) := by
     conv => lhs; rw [a1]
     rw [List.drop_left]
    rw [← a2, List.drop_drop]
    congr 1; omega
   have hle : i + (T.length + 1) ≤ S.length := by
    have : T.length ≤ (S.drop (i + 1)).length := by rw [← hT]; exact (List.takeWhile_sublist _).length_le
    simp only [List.length_drop] at this
    omega
   have hnext := fun o' (ho : o'.length ≤ i + (T.length + 1)) => ih (i + (T.length + 1)) o' (by omega) hle ho
   rw [hdw] at hnext
   by_cases hz : S[i].n + sumN T = 0
   ·have hr : (rd_zm_56_5 [.i (i : Nat), .l (S.map Cnt.e), .l (o.map Cnt.e)]).val = some (.next [.i ((i + (T.length + 1) : Nat) : Int), .l (S.map Cnt.e), .l (o.map Cnt.e)]) := by
     simp only [rd_zm_56_5, rt_test, rt_next, rt_stop, el_map _ _ h, row_e, ln_map, inR_cast, Int.ofNat_lt, h, hlm, decide_true, if_true, Int.toNat_natCast, e1, hin, ok_some', out_some, uI_0, uI_s, uL_s, uL_0, beq_self_eq_true, hz, bne_self_eq_false, Bool.false_eq_true, if_false]
    rw [lres_next hr, hnext o (by omega)]
    unfold one1
    rw [if_neg (by omega), List.nil_append]
   ·have hz' : (S[i].n + sumN T != 0) = true := by simpa using hz
    have hr : (rd_zm_56_5 [.i (i : Nat), .l (S.map Cnt.e), .l (o.map Cnt.e)]).val = some (.next [.i ((i + (T.length + 1) : Nat) : Int), .l (S.map Cnt.e), .l ((o ++ [(⟨S[i].row, S[i].n + sumN T⟩ : Cnt)]).map Cnt.e)]) := by
     rw [map_app_e, List.map_cons, List.map_nil, one_e]
     simp only [rd_zm_56_5, rt_test, rt_next, rt_stop, el_map _ _ h, row_e, ln_map, inR_cast, Int.ofNat_lt, h, hlm, decide_true, if_true, Int.toNat_natCast, e1, e2, hin, ok_some', out_some, uI_0, uI_s, uL_s, uL_0, beq_self_eq_true, hz']
    rw [lres_next hr, hnext _ (by simp; omega)]
    unfold one1
    rw [if_pos hz, List.append_assoc]
  ·have : i = S.length := by omega
   subst this
   refine lres_stop ?_
   simp [rd_zm_56_5, grp]

theorem Sum_res (l : List Cnt) (hl : okB l) (ha : absN l ≤ 4611686018427387904) : (m_zm [.l (l.map Cnt.e)]).res = some (0, [.l ((sumB l).map Cnt.e)]) := by
 obtain ⟨s, s1, s2, s3⟩ := sort_res l hl
 have hs : okB s := ⟨by rw [s2.length_eq]; exact hl.1, fun c hc => hl.2 c (s2.mem_iff.1 hc)⟩
 have h := sum_outer s hs (by rw [absN_perm s2]; exact ha) s.length 0 [] (by omega) (by omega) (by simp)
 have e : grp s.length s = sumB l := sumB_eq (grp_canon _ s3) fun r => by rw [grp_cnt _ _ _ (Nat.le_refl _), cnt_perm s2]
 rw [List.drop_zero, List.nil_append, e] at h
 simp only [Int.natCast_zero, List.map_nil] at h
 have e1 : (0 + (l.map Cnt.e).length) * 32 ≤ 140737488355328 := by have := hl.1; rw [List.length_map]; omega
 simp only [m_zm, res_test, res_stop, e1, decide_true, if_true, s1, ok_some', out_some, uL_0, beq_self_eq_true, h]

end Go.Proofs.YtkaljlpbmbfpgaaGreatDoor

set_option linter.unusedVariables false
set_option linter.unusedSimpArgs false
namespace Go.Proofs.YtkaljlpbmbfpgaaGreatDoor
open Go Go.Pu

end Go.Proofs.YtkaljlpbmbfpgaaGreatDoor

set_option linter.unusedVariables false
set_option linter.unusedSimpArgs false
namespace Go.Proofs.YtkaljlpbmbfpgaaGreatDoor
open Go Go.Pu

def beE (b : List Cnt) : List PV := [.lst 49 (b.map Cnt.e)]

theorem flat_take (ls : List (List Cnt)) {i : Nat} (h : i < ls.length) : (ls.take (i + 1)).flatten = (ls.take i).flatten ++ ls[i] := by
 rw [take_one ls h, List.flatten_append]; simp
theorem flat_le (ls : List (List Cnt)) (i : Nat) : (ls.take i).flatten.length ≤ ls.flatten.length := by
 have h : ls.flatten = (ls.take i).flatten ++ (ls.drop i).flatten := by rw [← List.flatten_append, List.take_append_drop]
 rw [h, List.length_append]; omega

theorem plus_loop (ls : List (List Cnt)) (h0 : ls.length ≤ 1000000) (h1 : ls.flatten.length ≤ 1000000) (hl : ∀ b ∈ ls, okB b) :
  lres rd_zaf_59_3 [.l (ls.map beE), .i (ls.length : Nat), .i 0, .l []] = if ls.all mayB = true then some (1, [.l (ls.flatten.map Cnt.e)]) else some (0, []) := by
 have h := loop_all' ls (rd := rd_zaf_59_3) (fun i => [.l (ls.map beE), .i (ls.length : Nat), .i (i : Nat), .l ((ls.take i).flatten.map Cnt.e)]) mayB 0 1 [] [.l (ls.flatten.map Cnt.e)] (by simp [rd_zaf_59_3]) (by
  intro i h
  have h2 := bag_May_res ls[i] (hl _ (List.getElem_mem h))
  have e1 : cL (beE ls[i]) 0 = ls[i].map Cnt.e := rfl
  by_cases c : mayB ls[i] = true
  ·have e2 : (((ls.take i).flatten.map Cnt.e).length + (ls[i].map Cnt.e).length) * 32 ≤ 140737488355328 := by
    have k := flat_le ls (i + 1)
    rw [flat_take ls h, List.length_append] at k
    rw [List.length_map, List.length_map]; omega
   have e3 : (ls.take (i + 1)).flatten.map Cnt.e = (ls.take i).flatten.map Cnt.e ++ ls[i].map Cnt.e := by rw [flat_take ls h, List.map_append]
   rw [e3]
   generalize (ls.take i).flatten.map Cnt.e = A at *
   generalize ls[i].map Cnt.e = B at *
   simp only [rd_zaf_59_3, rt_test, rt_next, rt_stop, el_map _ _ h, ln_map, inR_cast, Int.ofNat_lt, h, decide_true, if_true, e1, h2, c, ok_some', out_some, uB_0, beq_self_eq_true, Bool.not_true, Bool.false_eq_true, if_false, e2, w64_succ (i := i) (by omega)]
  ·rw [Bool.not_eq_true] at c
   simp [rd_zaf_59_3, el_map _ _ h, h, e1, h2, c])
 simpa using h

theorem fits_loop (b : List Cnt) (h0 : b.length ≤ 1000000) :
  (b.all (fun c => fitsN c.n) = true ∧ lres rd_zaf_97_2 [.l (b.map Cnt.e), .i (b.length : Nat), .i 0] = some (1, [])) ∨
   (b.all (fun c => fitsN c.n) = false ∧ ∃ i : Nat, lres rd_zaf_97_2 [.l (b.map Cnt.e), .i (b.length : Nat), .i 0] = some (0, [.i (i : Nat)])) := by
 have h := loop_all b (rd := rd_zaf_97_2) (fun i => [.l (b.map Cnt.e), .i (b.length : Nat), .i (i : Nat)]) (fun c => fitsN c.n) 0 1 (fun i => [.i (i : Nat)]) [] (by simp [rd_zaf_97_2]) (by
  intro i h
  have h1 := bag_fits_res b[i].n
  by_cases c : fitsN b[i].n = true
  ·simp [rd_zaf_97_2, el_map _ _ h, h, Cnt.e, h1, c, w64_succ (i := i) (by omega)]
  ·simp [rd_zaf_97_2, el_map _ _ h, h, Cnt.e, h1, c])
 simp only [Int.natCast_zero] at h
 rcases h with ⟨a1, a2⟩ | ⟨a1, i, _, _, _, a2⟩
 ·exact .inl ⟨a1, a2⟩
 ·exact .inr ⟨a1, i, a2⟩

theorem flat_okB {ls : List (List Cnt)} (h1 : ls.flatten.length ≤ 1000000) (hl : ∀ b ∈ ls, okB b) : okB ls.flatten :=
 ⟨by omega, fun c hc => by obtain ⟨b, hb, hc⟩ := List.mem_flatten.1 hc; exact (hl b hb).2 c hc⟩

theorem bag_Plus_res (ls : List (List Cnt)) (h0 : ls.length ≤ 1000000) (h1 : ls.flatten.length ≤ 1000000) (hl : ∀ b ∈ ls, okB b) : (m_zaf [.l (ls.map beE)]).res = some (0, [.l ((plusB ls).map Cnt.e)]) := by
 have h := plus_loop ls h0 h1 hl
 unfold plusB
 by_cases e : ls.all mayB = true
 ·rw [if_pos e] at h ⊢
  have ha : absN ls.flatten ≤ 4611686018427387904 := by
   have := absN_le (b := ls.flatten) (m := 1000000000) fun c hc => by
    obtain ⟨b, hb, hc⟩ := List.mem_flatten.1 hc
    exact mayB_n (List.all_eq_true.1 e b hb) hc
   omega
  have hs := Sum_res ls.flatten (flat_okB h1 hl) ha
  have hlen := sumB_len ls.flatten
  have hf := fits_loop (sumB ls.flatten) (by omega)
  generalize sumB ls.flatten = S at *
  generalize ls.flatten.map Cnt.e = A at *
  rcases hf with ⟨a1, a2⟩ | ⟨a1, i, a2⟩
  ·rw [if_pos a1]
   simp [m_zaf, h, hs, a2]
  ·rw [if_neg (by rw [a1]; decide)]
   have hi : (0 : Int) ≤ (i : Int) := by omega
   simp [m_zaf, h, hs, a2, hi]
 ·rw [if_neg e] at h ⊢
  simp [m_zaf, h]

end Go.Proofs.YtkaljlpbmbfpgaaGreatDoor

set_option linter.unusedVariables false
set_option linter.unusedSimpArgs false
namespace Go.Proofs.YtkaljlpbmbfpgaaGreatDoor
open Go Go.Pu

end Go.Proofs.YtkaljlpbmbfpgaaGreatDoor

set_option linter.unusedVariables false
set_option linter.unusedSimpArgs false
namespace Go.Proofs.YtkaljlpbmbfpgaaGreatDoor
open Go Go.Pu

theorem beq_bytes (a b : ByteArray) : (a == b) = decide (a = b) := by
 by_cases h : a = b
 ·rw [(MapKept.bytes_beq a b).2 h]; simp [h]
 ·rw [bytes_ne h]; simp [h]

theorem at_put (x : PV) (s s' : ByteArray) : ∀ es : List (List PV), atM (putM es s x) s' = if s' = s then x else atM es s'
 | [] => by
  simp only [putM, atM, beq_bytes]
  have : keyM [PV.str s, x] = s := rfl
  rw [this]
  by_cases h : s' = s
  ·simp [h]
  ·simp [h, Ne.symm h]
 | e :: es => by
  have ih := at_put x s s' es
  simp only [putM, beq_bytes]
  by_cases h : keyM e = s
  ·have e1 : keyM [PV.str s, x] = s := rfl
   simp only [h, decide_true, if_true, atM, beq_bytes, e1]
   by_cases h2 : s' = s
   ·simp [h2]
   ·simp [h2, Ne.symm h2]
  ·simp only [h, decide_false, Bool.false_eq_true, if_false, atM, beq_bytes, ih]
   by_cases h2 : s' = s
   ·subst h2; simp [h]
   ·simp only [h2, if_false]

theorem lk_put (t : TypeId) (rows es : List (List PV)) (s s' : ByteArray) : lkM (putM es s (.lst t rows)) s' = if s' = s then rows else lkM es s' := by
 unfold lkM
 rw [at_put]
 split <;> rfl

theorem bs_inj {a b : List UInt8} (h : bs a = bs b) : a = b := by
 have := congrArg (fun x : ByteArray => x.data.toList) h
 simpa using this

theorem nul_may : mayV nul = true := by decide

theorem atV_may {r : List Val} (h : mayR r = true) (n : Int) : mayV (atV r n) = true := by
 unfold mayR at h
 simp only [Bool.and_eq_true] at h
 unfold atV
 split
 ·rename_i hn
  have hk : n.toNat < r.length := by omega
  have e2 : r.getD n.toNat nul = r[n.toNat] := by rw [List.getD, List.getElem?_eq_getElem hk]; rfl
  rw [e2]
  exact List.all_eq_true.1 h.2 _ (List.getElem_mem hk)
 ·exact nul_may

theorem atV_ok {r : List Val} (h : okR r) (n : Int) : (atV r n).ok := by
 unfold atV
 split
 ·rename_i hn
  have hk : n.toNat < r.length := by omega
  have e2 : r.getD n.toNat nul = r[n.toNat] := by rw [List.getD, List.getElem?_eq_getElem hk]; rfl
  rw [e2]
  exact h.2 _ (List.getElem_mem hk)
 ·exact nul_ok

/-! products -/

section
variable (v0 v1 v2 : ByteArray) (i j : Int) (l5 l6 : List (List PV)) (b7 : Bool) (l8 : List (List PV))

end
end Go.Proofs.YtkaljlpbmbfpgaaGreatDoor

set_option linter.unusedVariables false
set_option linter.unusedSimpArgs false
namespace Go.Proofs.YtkaljlpbmbfpgaaGreatDoor
open Go Go.Pu

theorem cell_at (r : List Val) {n : Int} (h0 : 0 ≤ n) (h1 : n < r.length) : el (re r) n = Val.e (atV r n) := by
 have hk : n.toNat < r.length := by omega
 unfold atV el re
 rw [if_pos ⟨h0, h1⟩, List.getD, List.getElem?_map, List.getElem?_eq_getElem hk, List.getD, List.getElem?_eq_getElem hk]
 rfl

theorem atV_lo (r : List Val) {n : Int} (h : ¬ n ≥ 0) : atV r n = nul := by
 unfold atV; rw [if_neg (by omega)]
theorem atV_hi (r : List Val) {n : Int} (h : ¬ n < r.length) : atV r n = nul := by
 unfold atV; rw [if_neg (by omega)]

theorem sumN_abs' (l : List Cnt) : (sumN l).natAbs ≤ absN l := by have := sum_abs l; omega

theorem take_cnt (l : List Cnt) {q : Nat} (h : q < l.length) : l.take (q + 1) = l.take q ++ [l[q]] := by
 rw [List.take_succ_eq_append_getElem h]

theorem sumN_app' (a b : List Cnt) : sumN (a ++ b) = sumN a + sumN b := by simp [sumN]

theorem sumN_take' (l : List Cnt) {q : Nat} (h : q < l.length) : sumN (l.take (q + 1)) = sumN (l.take q) + l[q].n := by
 rw [take_cnt l h, sumN_app']; simp [sumN]

theorem lin_take (g : List Val → Int) (l : List Cnt) {q : Nat} (h : q < l.length) : lin g (l.take (q + 1)) = lin g (l.take q) + l[q].n * g l[q].row := by
 rw [take_cnt l h, lin_app]; simp [lin]

theorem any_take (col : Int) (l : List Cnt) {q : Nat} (h : q < l.length) : anyI col (l.take (q + 1)) = (anyI col (l.take q) || decide ((atV l[q].row col).k = 2)) := by
 rw [take_cnt l h]; unfold anyI; rw [List.any_append]; simp only [List.any_cons, List.any_nil, Bool.or_false]

theorem bestV_app (s col : Int) : ∀ (a b : List Cnt) (w : Val), bestV s col (a ++ b) w = bestV s col b (bestV s col a w)
 | [], b, w => rfl
 | c :: a, b, w => by rw [List.cons_append, bestV, bestV_app s col a b, bestV]

theorem bestV_take (s col : Int) (l : List Cnt) {q : Nat} (h : q < l.length) (w : Val) : bestV s col (l.take (q + 1)) w = if better s (atV l[q].row col) (bestV s col (l.take q) w) = true then atV l[q].row col else bestV s col (l.take q) w := by
 rw [take_cnt l h, bestV_app]; rfl

def lo64 (S : Int) : Int := S % 18446744073709551616
def hi64 (S : Int) : Int := S / 18446744073709551616 % 18446744073709551616

theorem sub128 (S p : Int) (h0 : 0 ≤ p) (h1 : p < 340282366920938463463374607431768211456) :
  externIn (lo64 S) (p % 18446744073709551616) 0 = true ∧ externIn (hi64 S) (p / 18446744073709551616) (subHi (lo64 S) (p % 18446744073709551616) 0) = true ∧
  subLo (lo64 S) (p % 18446744073709551616) 0 = lo64 (S - p) ∧ subLo (hi64 S) (p / 18446744073709551616) (subHi (lo64 S) (p % 18446744073709551616) 0) = hi64 (S - p) := by
 unfold externIn subHi subLo lo64 hi64
 refine ⟨decide_eq_true (by omega), decide_eq_true ?_, by omega, ?_⟩
 ·split <;> omega
 ·split <;> omega

theorem add128 (S p : Int) (h0 : 0 ≤ p) (h1 : p < 340282366920938463463374607431768211456) :
  externIn (lo64 S) (p % 18446744073709551616) 0 = true ∧ externIn (hi64 S) (p / 18446744073709551616) (addHi (lo64 S) (p % 18446744073709551616) 0) = true ∧
  addLo (lo64 S) (p % 18446744073709551616) 0 = lo64 (S + p) ∧ addLo (hi64 S) (p / 18446744073709551616) (addHi (lo64 S) (p % 18446744073709551616) 0) = hi64 (S + p) := by
 unfold externIn addHi addLo lo64 hi64
 refine ⟨decide_eq_true (by omega), decide_eq_true ?_, by omega, ?_⟩
 ·omega
 ·omega

section
variable (B : List Cnt) (f col a5 a6 : Int) (a7 : ByteArray)

theorem agg_count (h0 : B.length ≤ 1000000) (hn : absN B ≤ 4611686018427387904) (s : ByteArray) :
  lres rd_zs_47_3 [.l (B.map Cnt.e), .i (B.length : Nat), .i 0, .i f, .i col, .i a5, .i a6, .s a7, .i 0, .i 0, .s s] = some (0, [.i a5, .i a6, .s a7, .i (if B.length = 0 then 0 else 2), .i (sumN B), .s s]) := by
 have h := loop_acc B.length (rd := rd_zs_47_3) (fun p => [.l (B.map Cnt.e), .i (B.length : Nat), .i (p : Nat), .i f, .i col, .i a5, .i a6, .s a7, .i (if p = 0 then 0 else 2), .i (sumN (B.take p)), .s s]) (some (0, [.i a5, .i a6, .s a7, .i (if B.length = 0 then 0 else 2), .i (sumN B), .s s]))
  (lres_stop (by simp [rd_zs_47_3])) (by
  intro p h
  have row0 : cL B[p].e 0 = re B[p].row := rfl
  have row1 : cI B[p].e 1 = B[p].n := rfl
  have hp : ¬ p + 1 = 0 := by omega
  have hw : w64 (sumN (B.take p) + B[p].n) = sumN (B.take (p + 1)) := by
   rw [← sumN_take' B h]
   have h1 := sumN_abs' (B.take (p + 1))
   have h2 := absN_take B (p + 1)
   exact w64_eq (by omega) (by omega)
  by_cases c1 : col ≥ 0
  ·by_cases c2 : col < (B[p].row.length : Int)
   ·have c3 : inR col (B[p].row.length : Int) = true := inR_iff.2 ⟨c1, c2⟩
    simp only [rd_zs_47_3, rt_test, rt_next, rt_stop, el_map _ _ h, ln_map, ln_re, inR_cast, Int.ofNat_lt, h, decide_true, if_true, row0, row1, c1, c2, c3, hw, hp, if_false, w64_succ (i := p) (by omega)]
   ·simp only [rd_zs_47_3, rt_test, rt_next, rt_stop, el_map _ _ h, ln_map, ln_re, inR_cast, Int.ofNat_lt, h, decide_true, decide_false, Bool.false_eq_true, if_true, row0, row1, c1, c2, hw, hp, if_false, w64_succ (i := p) (by omega)]
  ·simp only [rd_zs_47_3, rt_test, rt_next, rt_stop, el_map _ _ h, ln_map, ln_re, inR_cast, Int.ofNat_lt, h, decide_true, decide_false, Bool.false_eq_true, if_true, row0, row1, c1, hw, hp, if_false, w64_succ (i := p) (by omega)])
 simpa [sumN] using h

theorem agg_none (h0 : B.length ≤ 1000000) (a8 a9 : Int) (s : ByteArray) :
  lres rd_zs_47_3_10 [.l (B.map Cnt.e), .i (B.length : Nat), .i 0, .i f, .i col, .i a5, .i a6, .s a7, .i a8, .i a9, .s s] = some (0, [.i a5, .i a6, .s a7, .i a8, .i a9, .s s]) := by
 have h := loop_acc B.length (rd := rd_zs_47_3_10) (fun p => [.l (B.map Cnt.e), .i (B.length : Nat), .i (p : Nat), .i f, .i col, .i a5, .i a6, .s a7, .i a8, .i a9, .s s]) (some (0, [.i a5, .i a6, .s a7, .i a8, .i a9, .s s]))
  (lres_stop (by simp [rd_zs_47_3_10])) (by
  intro p h
  have row0 : cL B[p].e 0 = re B[p].row := rfl
  by_cases c1 : col ≥ 0
  ·by_cases c2 : col < (B[p].row.length : Int)
   ·have c3 : inR col (B[p].row.length : Int) = true := inR_iff.2 ⟨c1, c2⟩
    simp only [rd_zs_47_3_10, rt_test, rt_next, rt_stop, el_map _ _ h, ln_map, ln_re, inR_cast, Int.ofNat_lt, h, decide_true, if_true, row0, c1, c2, c3, if_false, w64_succ (i := p) (by omega)]
   ·simp only [rd_zs_47_3_10, rt_test, rt_next, rt_stop, el_map _ _ h, ln_map, ln_re, inR_cast, Int.ofNat_lt, h, decide_true, decide_false, Bool.false_eq_true, if_true, row0, c1, c2, if_false, w64_succ (i := p) (by omega)]
  ·simp only [rd_zs_47_3_10, rt_test, rt_next, rt_stop, el_map _ _ h, ln_map, ln_re, inR_cast, Int.ofNat_lt, h, decide_true, decide_false, Bool.false_eq_true, if_true, row0, c1, if_false, w64_succ (i := p) (by omega)])
 exact h

theorem agg_best (s : Int) (hs : s = 1 ∨ s = -1) (h0 : B.length ≤ 1000000) (hp : ∀ c ∈ B, 1 ≤ c.n) :
  lres rd_zs_47_3_9 [.l (B.map Cnt.e), .i (B.length : Nat), .i 0, .i f, .i col, .i a5, .i a6, .s a7, .i nul.k, .i nul.n, .s (bs nul.s), .i s] = some (0, [.i a5, .i a6, .s a7, .i (bestV s col B nul).k, .i (bestV s col B nul).n, .s (bs (bestV s col B nul).s), .i s]) := by
 have h := loop_acc B.length (rd := rd_zs_47_3_9) (fun p => [.l (B.map Cnt.e), .i (B.length : Nat), .i (p : Nat), .i f, .i col, .i a5, .i a6, .s a7, .i (bestV s col (B.take p) nul).k, .i (bestV s col (B.take p) nul).n, .s (bs (bestV s col (B.take p) nul).s), .i s]) (some (0, [.i a5, .i a6, .s a7, .i (bestV s col B nul).k, .i (bestV s col B nul).n, .s (bs (bestV s col B nul).s), .i s]))
  (lres_stop (by simp [rd_zs_47_3_9])) (by
  intro p h
  have row0 : cL B[p].e 0 = re B[p].row := rfl
  have row1 : cI B[p].e 1 = B[p].n := rfl
  have hn : B[p].n > 0 := by have := hp B[p] (List.getElem_mem h); omega
  have ht := bestV_take s col B h nul
  generalize bestV s col (B.take p) nul = w at ht ⊢
  by_cases c1 : col ≥ 0
  ·by_cases c2 : col < (B[p].row.length : Int)
   ·have c3 : inR col (B[p].row.length : Int) = true := inR_iff.2 ⟨c1, c2⟩
    have e0 := cell_at B[p].row c1 c2
    generalize atV B[p].row col = v at e0 ht
    have e1 : cI (Val.e v) 0 = v.k := rfl
    have e2 : cI (Val.e v) 1 = v.n := rfl
    have e3 : cS (Val.e v) 2 = bs v.s := rfl
    have e4 := value_Compare_res v w
    have e5 : w64 (s * cmpV v w) = s * cmpV v w := by
     have := cV.rng v w
     rcases hs with rfl | rfl <;> exact w64_eq (by omega) (by omega)
    have hb : better s v w = (decide (v.k ≠ 0) && (decide (w.k = 0) || decide (s * cmpV v w < 0))) := rfl
    by_cases k1 : v.k = 0
    ·have hb' : better s v w = false := by rw [hb]; simp [k1]
     rw [hb', if_neg (by simp)] at ht
     simp only [rd_zs_47_3_9, rt_test, rt_next, rt_stop, el_map _ _ h, ln_map, ln_re, inR_cast, Int.ofNat_lt, h, decide_true, if_true, row0, row1, c1, c2, c3, e0, e1, k1, bne_self_eq_false, Bool.false_eq_true, if_false, ht, w64_succ (i := p) (by omega)]
    ·have k1' : (v.k != 0) = true := by simpa using k1
     by_cases k2 : w.k = 0
     ·have k2' : (w.k == 0) = true := by simpa using k2
      have hb' : better s v w = true := by rw [hb]; simp [k1, k2]
      rw [hb', if_pos rfl] at ht
      simp only [rd_zs_47_3_9, rt_test, rt_next, rt_stop, el_map _ _ h, ln_map, ln_re, inR_cast, Int.ofNat_lt, h, decide_true, if_true, row0, row1, c1, c2, c3, e0, e1, e2, e3, k1', k2', hn, Bool.false_eq_true, if_false, ht, w64_succ (i := p) (by omega)]
     ·have k2' : (w.k == 0) = false := by simpa using k2
      by_cases k3 : s * cmpV v w < 0
      ·have hb' : better s v w = true := by rw [hb]; simp [k1, k3]
       rw [hb', if_pos rfl] at ht
       simp only [rd_zs_47_3_9, rt_test, rt_next, rt_stop, el_map _ _ h, ln_map, ln_re, inR_cast, Int.ofNat_lt, h, decide_true, if_true, row0, row1, c1, c2, c3, e0, e1, e2, e3, e4, e5, ok_some', out_some, uI_0, beq_self_eq_true, k1', k2', k3, hn, Bool.false_eq_true, if_false, ht, w64_succ (i := p) (by omega)]
      ·have hb' : better s v w = false := by rw [hb]; simp [k2, k3]
       rw [hb', if_neg (by simp)] at ht
       simp only [rd_zs_47_3_9, rt_test, rt_next, rt_stop, el_map _ _ h, ln_map, ln_re, inR_cast, Int.ofNat_lt, h, decide_true, decide_false, if_true, row0, row1, c1, c2, c3, e0, e1, e2, e3, e4, e5, ok_some', out_some, uI_0, beq_self_eq_true, k1', k2', k3, hn, Bool.false_eq_true, if_false, ht, w64_succ (i := p) (by omega)]
   ·have hb' : better s (atV B[p].row col) w = false := by rw [atV_hi _ c2]; rfl
    rw [hb', if_neg (by simp)] at ht
    simp only [rd_zs_47_3_9, rt_test, rt_next, rt_stop, el_map _ _ h, ln_map, ln_re, inR_cast, Int.ofNat_lt, h, decide_true, decide_false, Bool.false_eq_true, if_true, row0, c1, c2, if_false, ht, w64_succ (i := p) (by omega)]
  ·have hb' : better s (atV B[p].row col) w = false := by rw [atV_lo _ c1]; rfl
   rw [hb', if_neg (by simp)] at ht
   simp only [rd_zs_47_3_9, rt_test, rt_next, rt_stop, el_map _ _ h, ln_map, ln_re, inR_cast, Int.ofNat_lt, h, decide_true, decide_false, Bool.false_eq_true, if_true, row0, c1, if_false, ht, w64_succ (i := p) (by omega)])
 exact h

theorem agg_sum (h0 : B.length ≤ 1000000) (hp : ∀ c ∈ B, 1 ≤ c.n ∧ c.n ≤ 1000000000) (hv : ∀ c ∈ B, okR c.row) :
  lres rd_zs_47_3_8 [.l (B.map Cnt.e), .i (B.length : Nat), .i 0, .i f, .i col, .i a5, .i a6, .s a7, .i 0, .i 0, .b false] = some (0, [.i a5, .i a6, .s a7, .i (hi64 (lin (valI col) B)), .i (lo64 (lin (valI col) B)), .b (anyI col B)]) := by
 have h := loop_acc B.length (rd := rd_zs_47_3_8) (fun p => [.l (B.map Cnt.e), .i (B.length : Nat), .i (p : Nat), .i f, .i col, .i a5, .i a6, .s a7, .i (hi64 (lin (valI col) (B.take p))), .i (lo64 (lin (valI col) (B.take p))), .b (anyI col (B.take p))]) (some (0, [.i a5, .i a6, .s a7, .i (hi64 (lin (valI col) B)), .i (lo64 (lin (valI col) B)), .b (anyI col B)]))
  (lres_stop (by simp [rd_zs_47_3_8])) (by
  intro p h
  have row0 : cL B[p].e 0 = re B[p].row := rfl
  have row1 : cI B[p].e 1 = B[p].n := rfl
  obtain ⟨n1, n2⟩ := hp B[p] (List.getElem_mem h)
  have hvv := atV_ok (hv B[p] (List.getElem_mem h)) col
  have hl := lin_take (valI col) B h
  have ha := any_take col B h
  generalize lin (valI col) (B.take p) = S at hl ⊢
  generalize anyI col (B.take p) = b at ha ⊢
  by_cases c1 : col ≥ 0
  ·by_cases c2 : col < (B[p].row.length : Int)
   ·have c3 : inR col (B[p].row.length : Int) = true := inR_iff.2 ⟨c1, c2⟩
    have e0 := cell_at B[p].row c1 c2
    have hval : valI col B[p].row = if (atV B[p].row col).k = 2 then (atV B[p].row col).n else 0 := rfl
    rw [hval] at hl
    generalize atV B[p].row col = v at e0 hl ha hvv
    have e1 : cI (Val.e v) 0 = v.k := rfl
    have e2 : cI (Val.e v) 1 = v.n := rfl
    generalize B[p].n = n at row1 n1 n2 hl
    by_cases k1 : v.k = 2
    ·have k1' : (v.k != 2) = false := by simpa using k1
     rw [if_pos k1] at hl
     have ha' : anyI col (B.take (p + 1)) = true := by rw [ha]; simp [k1]
     have hn0 : decide (n > 0) = true := decide_eq_true (by omega)
     have hi := hvv.2.1
     unfold i64 at hi
     have wn : IntKind.wrap IntKind.u64 n = n := by show n % 18446744073709551616 = n; omega
     have in2 : inU64 n = true := decide_eq_true (by omega)
     by_cases k2 : v.n < 0
     ·have wm : IntKind.wrap IntKind.u64 ((0 : Int) - IntKind.wrap IntKind.u64 v.n) = -v.n := by show (0 - v.n % 18446744073709551616) % 18446744073709551616 = -v.n; omega
      have in1 : inU64 (-v.n) = true := decide_eq_true (by omega)
      have b1 : 0 ≤ -v.n * n := Int.mul_nonneg (by omega) (by omega)
      have b2 : -v.n * n ≤ 9223372036854775808 * 1000000000 := Int.mul_le_mul (by omega) n2 (by omega) (by omega)
      obtain ⟨x1, x2, x3, x4⟩ := sub128 S (-v.n * n) b1 (by omega)
      have hl' : S - -v.n * n = lin (valI col) (B.take (p + 1)) := by rw [hl, Int.neg_mul, Int.mul_comm]; omega
      rw [hl'] at x3 x4
      cases b <;> simp only [rd_zs_47_3_8, rt_test, rt_next, rt_stop, el_map _ _ h, ln_map, ln_re, inR_cast, Int.ofNat_lt, h, decide_true, if_true, row0, row1, c1, c2, c3, e0, e1, e2, k1', k2, wm, wn, in1, in2, mulHi, mulLo, x1, x2, x3, x4, Bool.and_self, hn0, ha', Bool.false_eq_true, if_false, w64_succ (i := p) (by omega)]
     ·have wm : IntKind.wrap IntKind.u64 v.n = v.n := by show v.n % 18446744073709551616 = v.n; omega
      have in1 : inU64 v.n = true := decide_eq_true (by omega)
      have b1 : 0 ≤ v.n * n := Int.mul_nonneg (by omega) (by omega)
      have b2 : v.n * n ≤ 9223372036854775808 * 1000000000 := Int.mul_le_mul (by omega) n2 (by omega) (by omega)
      obtain ⟨x1, x2, x3, x4⟩ := add128 S (v.n * n) b1 (by omega)
      have hl' : S + v.n * n = lin (valI col) (B.take (p + 1)) := by rw [hl, Int.mul_comm]
      rw [hl'] at x3 x4
      cases b <;> simp only [rd_zs_47_3_8, rt_test, rt_next, rt_stop, el_map _ _ h, ln_map, ln_re, inR_cast, Int.ofNat_lt, h, decide_true, decide_false, if_true, row0, row1, c1, c2, c3, e0, e1, e2, k1', k2, wm, wn, in1, in2, mulHi, mulLo, x1, x2, x3, x4, Bool.and_self, hn0, ha', Bool.false_eq_true, if_false, w64_succ (i := p) (by omega)]
    ·have k1' : (v.k != 2) = true := by simpa using k1
     rw [if_neg k1, Int.mul_zero, Int.add_zero] at hl
     have ha' : anyI col (B.take (p + 1)) = b := by rw [ha]; simp [k1]
     simp only [rd_zs_47_3_8, rt_test, rt_next, rt_stop, el_map _ _ h, ln_map, ln_re, inR_cast, Int.ofNat_lt, h, decide_true, if_true, row0, row1, c1, c2, c3, e0, e1, k1', ha', hl, w64_succ (i := p) (by omega)]
   ·have hz := atV_hi B[p].row c2
    have hval : valI col B[p].row = 0 := by unfold valI; rw [hz]; rfl
    rw [hval, Int.mul_zero, Int.add_zero] at hl
    have ha' : anyI col (B.take (p + 1)) = b := by rw [ha, hz]; simp [nul]
    simp only [rd_zs_47_3_8, rt_test, rt_next, rt_stop, el_map _ _ h, ln_map, ln_re, inR_cast, Int.ofNat_lt, h, decide_true, decide_false, Bool.false_eq_true, if_true, row0, c1, c2, if_false, hl, ha', w64_succ (i := p) (by omega)]
  ·have hz := atV_lo B[p].row c1
   have hval : valI col B[p].row = 0 := by unfold valI; rw [hz]; rfl
   rw [hval, Int.mul_zero, Int.add_zero] at hl
   have ha' : anyI col (B.take (p + 1)) = b := by rw [ha, hz]; simp [nul]
   simp only [rd_zs_47_3_8, rt_test, rt_next, rt_stop, el_map _ _ h, ln_map, ln_re, inR_cast, Int.ofNat_lt, h, decide_true, decide_false, Bool.false_eq_true, if_true, row0, c1, if_false, hl, ha', w64_succ (i := p) (by omega)])
 exact h

end

/-- what 128 bits hold -/
theorem bits128 {S : Int} (h : -170141183460469231731687303715884105728 ≤ S ∧ S < 170141183460469231731687303715884105728) :
  ((w64 (lo64 S) ≥ 0 → (hi64 S = 0 ↔ -9223372036854775808 ≤ S ∧ S < 9223372036854775808)) ∧ (w64 (lo64 S) < 0 → (hi64 S = 18446744073709551615 ↔ -9223372036854775808 ≤ S ∧ S < 9223372036854775808))) ∧
  (-9223372036854775808 ≤ S ∧ S < 9223372036854775808 → w64 (lo64 S) = S) := by
 have hw : w64 (lo64 S) = (S % 18446744073709551616 + 9223372036854775808) % 18446744073709551616 - 9223372036854775808 := by
  show IntKind.i64.wrap (lo64 S) = _
  rw [IntKind.wrap_i64]
  unfold lo64
  omega
 rw [hw]
 unfold hi64
 omega

end Go.Proofs.YtkaljlpbmbfpgaaGreatDoor

set_option linter.unusedVariables false
set_option linter.unusedSimpArgs false
namespace Go.Proofs.YtkaljlpbmbfpgaaGreatDoor
open Go Go.Pu

structure Nd where
 op : Int
 n : Int
 v : Val
def Nd.e (d : Nd) : List PV := [pI d.op, pI d.n, pI d.v.k, pI d.v.n, pS (bs d.v.s)]
def Nd.ok (d : Nd) : Prop := i64 d.op ∧ i64 d.n ∧ d.v.ok

/-- how many values a step takes -/
def tk (op : Int) : Int := if op = 0 ∨ op = 1 then 0 else if op = 9 ∨ op = 10 then 1 else if 2 ≤ op ∧ op ≤ 8 then 2 else -1
def kOk (k a : Int) : Bool := decide (a = k ∨ a = 0)
/-- the kind that a step leaves, and whether it takes such kinds -/
def lv (op a b : Int) : Int × Bool :=
 if op = 2 ∨ op = 3 ∨ op = 4 then (2, kOk 2 a && kOk 2 b) else if op = 5 ∨ op = 6 then (1, decide (a = b ∨ a = 0 ∨ b = 0)) else if op = 7 ∨ op = 8 then (1, kOk 1 a && kOk 1 b)
 else if op = 9 then (1, kOk 1 b) else (1, true)
def cmpE (op : Int) (a b : Val) : Val := if a.k = 0 ∨ b.k = 0 then nul else tru (if op = 5 then decide (cmpV a b = 0) else decide (cmpV a b < 0))
def do2 (op : Int) (a b : Val) : Val × Bool :=
 if op = 2 then addV a b else if op = 3 then subV a b else if op = 4 then mulV a b else
  (if op = 7 then foldV false [a, b] else if op = 8 then foldV true [a, b] else if op = 9 then notV b else if op = 10 then tru (decide (b.k = 0)) else cmpE op a b, true)

/-- what is left, the last one first; else what is wrong -/
def appV (op : Int) (a b : Val) (s : List Val) : Except Int (List Val) :=
 if (lv op a.k b.k).2 = true then (if (do2 op a b).2 = true then .ok ((do2 op a b).1 :: s) else .error 31) else .error 30
def stepV (row : List Val) (s : List Val) (d : Nd) : Except Int (List Val) :=
 if d.op = 0 then (if 0 ≤ d.n ∧ d.n < row.length then .ok (row.getD d.n.toNat nul :: s) else .error 30)
 else if d.op = 1 then (if mayV d.v = true then .ok (d.v :: s) else .error 30)
 else if tk d.op = 1 then (match s with | [] => .error 30 | b :: s => appV d.op nul b s)
 else if tk d.op = 2 then (match s with | b :: a :: s => appV d.op a b s | _ => .error 30)
 else .error 30
def runV (row : List Val) : List Nd → List Val → Except Int (List Val)
 | [], s => .ok s
 | d :: e, s => match stepV row s d with | .error f => .error f | .ok s => runV row e s
def lastV : Except Int (List Val) → Val × Int
 | .error f => (nul, f)
 | .ok [x] => (x, 0)
 | .ok _ => (nul, 30)
def evalV (e : List Nd) (row : List Val) : Val × Int := if e.length > 100 then (nul, 1) else lastV (runV row e [])
/-! what has a kind -/

/-! parts -/

theorem runV_app (row : List Val) : ∀ (a b : List Nd) (s : List Val), runV row (a ++ b) s = match runV row a s with | .error f => .error f | .ok s => runV row b s
 | [], b, s => rfl
 | d :: a, b, s => by
  rw [List.cons_append, runV, runV]
  cases stepV row s d with
  | error f => rfl
  | ok s1 => exact runV_app row a b s1

/-- what lies below is not looked at, where nothing is wrong with the step's kinds -/
theorem stepV_under (row s u : List Val) (d : Nd) : (∀ t, stepV row s d = .ok t → stepV row (s ++ u) d = .ok (t ++ u)) ∧ (stepV row s d = .error 31 → stepV row (s ++ u) d = .error 31) := by
 have happ : ∀ op a b (s : List Val), (∀ t, appV op a b s = .ok t → appV op a b (s ++ u) = .ok (t ++ u)) ∧ (appV op a b s = .error 31 → appV op a b (s ++ u) = .error 31) := by
  intro op a b s
  unfold appV
  split
  ·split
   ·exact ⟨fun t h => by injection h with h; subst h; rfl, fun h => by cases h⟩
   ·exact ⟨fun t h => (by cases h), fun h => rfl⟩
  ·exact ⟨fun t h => (by cases h), fun h => by injection h with h; exact absurd h (by decide)⟩
 have bad : (∀ t, (Except.error 30 : Except Int (List Val)) = .ok t → stepV row (s ++ u) d = .ok (t ++ u)) ∧ ((Except.error 30 : Except Int (List Val)) = .error 31 → stepV row (s ++ u) d = .error 31) :=
  ⟨fun t h => (by cases h), fun h => by injection h with h; exact absurd h (by decide)⟩
 unfold stepV at *
 by_cases e0 : d.op = 0
 ·simp only [if_pos e0] at bad ⊢
  split
  ·exact ⟨fun t h => by injection h with h; subst h; rfl, fun h => by cases h⟩
  ·rename_i hc; rw [if_neg hc] at bad; exact bad
 simp only [if_neg e0] at bad ⊢
 by_cases e1 : d.op = 1
 ·simp only [if_pos e1] at bad ⊢
  split
  ·exact ⟨fun t h => by injection h with h; subst h; rfl, fun h => by cases h⟩
  ·rename_i hc; rw [if_neg hc] at bad; exact bad
 simp only [if_neg e1] at bad ⊢
 by_cases k1 : tk d.op = 1
 ·simp only [if_pos k1] at bad ⊢
  match s, bad with
  | [], bad => exact ⟨fun t h => (by cases h), fun h => by injection h with h; exact absurd h (by decide)⟩
  | b :: s, _ => exact happ _ _ _ _
 simp only [if_neg k1] at bad ⊢
 by_cases k2 : tk d.op = 2
 ·simp only [if_pos k2] at bad ⊢
  match s with
  | [] => exact ⟨fun t h => (by cases h), fun h => by injection h with h; exact absurd h (by decide)⟩
  | [b] => exact ⟨fun t h => (by cases h), fun h => by injection h with h; exact absurd h (by decide)⟩
  | b :: a :: s => exact happ _ _ _ _
 ·simp only [if_neg k2]
  exact ⟨fun t h => (by cases h), fun h => by injection h with h; exact absurd h (by decide)⟩

theorem runV_under (row u : List Val) : ∀ (e : List Nd) (s : List Val), (∀ t, runV row e s = .ok t → runV row e (s ++ u) = .ok (t ++ u)) ∧ (runV row e s = .error 31 → runV row e (s ++ u) = .error 31)
 | [], s => ⟨fun t h => by injection h with h; subst h; rfl, fun h => by cases h⟩
 | d :: e, s => by
  have h1 := stepV_under row s u d
  unfold runV
  cases hs : stepV row s d with
  | error f =>
   refine ⟨fun t h => (by cases h), fun h => ?_⟩
   injection h with h
   subst h
   rw [h1.2 hs]
  | ok s1 =>
   rw [h1.1 s1 hs]
   exact runV_under row u e s1

/-! many ones, added up -/

end Go.Proofs.YtkaljlpbmbfpgaaGreatDoor

set_option linter.unusedVariables false
set_option linter.unusedSimpArgs false
namespace Go.Proofs.YtkaljlpbmbfpgaaGreatDoor
open Go Go.Pu

/-! kinds that are left, as they lie: the last one last -/

section
variable (op n k vn : Int) (vs : ByteArray) (C : List (List PV))

end

end Go.Proofs.YtkaljlpbmbfpgaaGreatDoor

set_option linter.unusedVariables false
set_option linter.unusedSimpArgs false
namespace Go.Proofs.YtkaljlpbmbfpgaaGreatDoor
open Go Go.Pu

/-! values that are left, as they lie -/

end Go.Proofs.YtkaljlpbmbfpgaaGreatDoor

set_option linter.unusedVariables false
set_option linter.unusedSimpArgs false
namespace Go.Proofs.YtkaljlpbmbfpgaaGreatDoor
open Go Go.Pu

theorem may_abs {b : List Cnt} (h : mayB b = true) (hl : b.length ≤ 1000000) : absN b ≤ 4611686018427387904 := by
 have := absN_le (b := b) (m := 1000000000) fun c hc => mayB_n h hc
 omega

theorem neg_round (A : List Cnt) (n i : Nat) (hn : n = A.length) (h0 : n ≤ 1000000) (hi : i < A.length) (hb : A[i].n.natAbs ≤ 1000000000) :
  (rd_zae_60_5 [.i (n : Nat), .i (i : Nat), .l (A.map Cnt.e)]).val = some (.next [.i (n : Nat), .i ((i + 1 : Nat) : Int), .l ((A.map Cnt.e).set i (negC A[i]).e)]) := by
 subst hn
 have w : w64 (0 - A[i].n) = -A[i].n := by rw [w64_eq (by omega) (by omega)]; omega
 have e1 : setCells (Cnt.e A[i]) 1 [pI (-A[i].n)] = (negC A[i]).e := by simp [Cnt.e, setCells, negC]
 have e2 : cI (Cnt.e A[i]) 1 = A[i].n := rfl
 simp only [rd_zae_60_5, rt_test, rt_next, rt_stop, el_map _ _ hi, ln_map, inR_cast, Int.ofNat_lt, hi, decide_true, if_true, Int.toNat_natCast, List.length_map, e2, w, e1, w64_succ (i := i) (by omega)]

theorem neg_loop (b : List Cnt) (h0 : b.length ≤ 1000000) (hm : ∀ c ∈ b, c.n.natAbs ≤ 1000000000) : lres rd_zae_60_5 [.i (b.length : Nat), .i 0, .l (b.map Cnt.e)] = some (0, [.l ((negB b).map Cnt.e)]) := by
 have h := loop_acc (rd := rd_zae_60_5) b.length (fun i => [.i (b.length : Nat), .i (i : Nat), .l ((((b.take i).map negC) ++ b.drop i).map Cnt.e)]) (some (0, [.l ((negB b).map Cnt.e)])) (by
   refine lres_stop ?_
   simp [rd_zae_60_5, negB]) (by
  intro i h
  have hd := List.drop_eq_getElem_cons h
  have hlen : b.length = (((b.take i).map negC) ++ b.drop i).length := by simp; omega
  have hi : i < (((b.take i).map negC) ++ b.drop i).length := by omega
  have hat : (((b.take i).map negC) ++ b.drop i)[i] = b[i] := by
   rw [List.getElem_append_right (by simp; omega)]
   simp [Nat.min_eq_left (Nat.le_of_lt h)]
  have hset : ((((b.take i).map negC) ++ b.drop i).map Cnt.e).set i (negC b[i]).e = (((b.take (i + 1)).map negC) ++ b.drop (i + 1)).map Cnt.e := by
   rw [← List.map_set]
   refine congrArg (List.map Cnt.e) ?_
   rw [take_one b h, hd, List.map_append, List.set_append_right _ _ (by simp; omega)]
   simp [Nat.min_eq_left (Nat.le_of_lt h)]
   rw [hd]; rfl
  have := neg_round _ b.length i hlen h0 hi (by rw [hat]; exact hm _ (List.getElem_mem h))
  rw [hat, hset] at this
  exact this)
 simpa using h

theorem bag_Neg_res (b : List Cnt) (h0 : b.length ≤ 1000000) (hb : okB b) : (m_zae [.l (b.map Cnt.e)]).res = some (0, [.l ((turnB b).map Cnt.e)]) := by
 have h1 := bag_May_res b hb
 unfold turnB
 by_cases e : mayB b = true
 ·have hs := Sum_res b hb (may_abs e h0)
  rw [sumB_self (mayB_canon e)] at hs
  have h2 := neg_loop b h0 fun c hc => mayB_n e hc
  rw [if_pos e]
  simp [m_zae, h1, e, hs, h2]
 ·rw [if_neg e]
  simp [m_zae, h1, e]

end Go.Proofs.YtkaljlpbmbfpgaaGreatDoor

set_option linter.unusedVariables false
set_option linter.unusedSimpArgs false
namespace Go.Proofs.YtkaljlpbmbfpgaaGreatDoor
open Go Go.Pu

end Go.Proofs.YtkaljlpbmbfpgaaGreatDoor

set_option linter.unusedVariables false
set_option linter.unusedSimpArgs false
namespace Go.Proofs.YtkaljlpbmbfpgaaGreatDoor
open Go Go.Pu

/-! texts -/

theorem mayR_okT {r : List Val} (hr : okR r) (h : mayR r = true) : okT r := by
 unfold mayR at h
 rw [Bool.and_eq_true, decide_eq_true_eq, List.all_eq_true] at h
 refine ⟨hr.2, by omega, fun v hv => ?_⟩
 have := h.2 v hv
 unfold mayV at this
 by_cases k0 : v.k = 0
 ·simp [k0] at this; rw [this.2]; simp
 by_cases k1 : v.k = 1
 ·simp [k1] at this; rw [this.2]; simp
 by_cases k2 : v.k = 2
 ·simp [k2] at this; rw [this]; simp
 ·simp [k0, k1, k2] at this; omega

theorem txtR_len {r : List Val} (h : okT r) : (txtR r).length ≤ 40006402 := by
 have := okT_len h
 have s1 : (txtR r).length = (bodyT r).length + 2 := by simp [txtR]
 omega

theorem entT_len {c : Cnt} (h : okT c.row) (hn : i64 c.n) : (entT c).length ≤ 40006430 := by
 have h1 := txtR_len h
 have h2 := itoa_len hn
 unfold entT cntT
 rw [List.length_append]
 split
 ·simp only [List.length_nil]; omega
 ·rw [List.length_cons]; omega

theorem tlC_len : ∀ {b : List Cnt}, (∀ c ∈ b, (entT c).length ≤ 40006430) → (tlC b).length ≤ b.length * 40006431
 | [], _ => by simp [tlC]
 | c :: b, h => by
  have h1 := tlC_len (b := b) fun d hd => h d (List.mem_cons_of_mem _ hd)
  have h2 := h c (List.mem_cons_self ..)
  have e : tlC (c :: b) = 32 :: (entT c ++ tlC b) := rfl
  rw [e, List.length_cons, List.length_append, List.length_cons]; omega

theorem txtB_len {b : List Cnt} (h : ∀ c ∈ b, (entT c).length ≤ 40006430) : (txtB b).length ≤ b.length * 40006431 := by
 cases b with
 | nil => simp [txtB]
 | cons c b =>
  have h1 := tlC_len (b := b) fun d hd => h d (List.mem_cons_of_mem _ hd)
  have h2 := h c (List.mem_cons_self ..)
  unfold txtB
  rw [List.length_append, List.length_cons]; omega

end Go.Proofs.YtkaljlpbmbfpgaaGreatDoor

set_option linter.unusedVariables false
set_option linter.unusedSimpArgs false
namespace Go.Proofs.YtkaljlpbmbfpgaaGreatDoor
open Go Go.Pu

theorem one1_e (r : List Val) (n : Int) (h : n ≠ 0) : (one1 r n).map Cnt.e = [[PV.lst 39 (re r), pI n]] := by
 unfold one1; rw [if_pos h]; rfl
theorem one1_0 (r : List Val) : one1 r 0 = [] := by unfold one1; rw [if_neg (by simp)]

theorem room2 {α : Type} (l : List α) (x : α) {k : Nat} (h : l.length ≤ k) (hk : k ≤ 4398046511102) : ((l ++ [x]).length + 1) * 32 ≤ 140737488355328 := by
 have : (l ++ [x]).length = l.length + 1 := by simp
 omega

/-- behind the place where the row was laid -/
theorem add_laid (b : List Cnt) (hb : okB b) (r : List Val) (n : Int) : ∀ m i (o : List Cnt), b.length - i = m → i ≤ b.length → o.length ≤ i + 1 → b.length ≤ 4398046511102 → (∀ c ∈ b.drop i, c.row ≠ r) →
  lres rd_zan_36_4 [.l (b.map Cnt.e), .l (re r), .i n, .b true, .i (i : Nat), .l (o.map Cnt.e)] = some (0, [.l (re r), .i n, .b true, .l ((o ++ b.drop i).map Cnt.e)]) := by
 intro m
 induction m with
 | zero =>
  intro i o h1 h2 h3 h4 h5
  have : i = b.length := by omega
  subst this
  refine lres_stop ?_
  simp [rd_zan_36_4]
 | succ m ih =>
  intro i o h1 h2 h3 h4 h5
  have h : i < b.length := by omega
  have hd := List.drop_eq_getElem_cons h
  have hc := R02_Compare_res b[i].row r (hb.2 _ (List.getElem_mem h)).1.1
  have hne : ¬ cmpR b[i].row r = 0 := fun e => h5 b[i] (by rw [hd]; exact List.mem_cons_self ..) ((cR.zero _ _).1 e)
  have hne' : (cmpR b[i].row r != 0) = true := by simpa using hne
  have e1 : ((o.map Cnt.e).length + 1) * 32 ≤ 140737488355328 := by rw [List.length_map]; omega
  have hr : (rd_zan_36_4 [.l (b.map Cnt.e), .l (re r), .i n, .b true, .i (i : Nat), .l (o.map Cnt.e)]).val = some (.next [.l (b.map Cnt.e), .l (re r), .i n, .b true, .i ((i + 1 : Nat) : Int), .l ((o ++ [b[i]]).map Cnt.e)]) := by
   rw [map_app_e, List.map_cons, List.map_nil, show b[i].e = [PV.lst 39 (re b[i].row), pI b[i].n] from rfl]
   simp only [rd_zan_36_4, rt_test, rt_next, rt_stop, el_map _ _ h, row_e, n_e, ln_map, inR_cast, Int.ofNat_lt, h, decide_true, if_true, hc, ok_some', out_some, uI_0, beq_self_eq_true, hne', e1, Bool.not_true, Bool.false_eq_true, if_false, w64_succ (i := i) (by omega)]
   split <;> rfl
  rw [lres_next hr, ih (i + 1) (o ++ [b[i]]) (by omega) (by omega) (by simp; omega) h4 (fun c hc => h5 c (by rw [hd]; exact List.mem_cons_of_mem _ hc)), hd, List.append_assoc]
  rfl

theorem add_loop (b : List Cnt) (hb : okB b) (hlen : b.length ≤ 4398046511102) (hr0 : rising b) (r : List Val) (n : Int) (hn : n.natAbs ≤ 2305843009213693952) (hbn : ∀ c ∈ b, c.n.natAbs ≤ 2305843009213693952) : ∀ m i (o : List Cnt), b.length - i = m → i ≤ b.length → o.length ≤ i →
  ∃ lb o', lres rd_zan_36_4 [.l (b.map Cnt.e), .l (re r), .i n, .b false, .i (i : Nat), .l (o.map Cnt.e)] = some (0, [.l (re r), .i n, .b lb, .l (o'.map Cnt.e)]) ∧
   (lb = true → o' = o ++ addC (b.drop i) r n) ∧ (lb = false → o' = o ++ b.drop i ∧ addC (b.drop i) r n = b.drop i ++ one1 r n ∧ o'.length ≤ b.length) := by
 intro m
 induction m with
 | zero =>
  intro i o h1 h2 h3
  have : i = b.length := by omega
  subst this
  refine ⟨false, o, lres_stop ?_, fun h => (by cases h), fun _ => ⟨by simp, by simp [addC], by omega⟩⟩
  simp [rd_zan_36_4]
 | succ m ih =>
  intro i o h1 h2 h3
  have h : i < b.length := by omega
  have hd := List.drop_eq_getElem_cons h
  have hm := List.getElem_mem h
  have hc := R02_Compare_res b[i].row r (hb.2 _ hm).1.1
  have e1 : ((o.map Cnt.e).length + 1) * 32 ≤ 140737488355328 := by rw [List.length_map]; omega
  have e2 : ∀ x : List PV, ((o.map Cnt.e ++ [x]).length + 1) * 32 ≤ 140737488355328 := fun x => room2 _ x (k := i) (by rw [List.length_map]; exact h3) (by omega)
  have hrest : ∀ c ∈ b.drop (i + 1), cmpR b[i].row c.row < 0 := by
   have := hr0.sublist (List.drop_sublist i b)
   rw [hd] at this
   exact (List.pairwise_cons.1 this).1
  have hbi : b[i].e = [PV.lst 39 (re b[i].row), pI b[i].n] := rfl
  rcases cR.rng b[i].row r with hx | hx | hx
  ·-- ahead
   have hr : (rd_zan_36_4 [.l (b.map Cnt.e), .l (re r), .i n, .b false, .i (i : Nat), .l (o.map Cnt.e)]).val = some (.next [.l (b.map Cnt.e), .l (re r), .i n, .b false, .i ((i + 1 : Nat) : Int), .l ((o ++ [b[i]]).map Cnt.e)]) := by
    rw [map_app_e, List.map_cons, List.map_nil, hbi]
    simp only [rd_zan_36_4, rt_test, rt_next, rt_stop, el_map _ _ h, row_e, n_e, ln_map, inR_cast, Int.ofNat_lt, h, decide_true, if_true, hc, hx, ok_some', out_some, uI_0, beq_self_eq_true, e1, w64_succ (i := i) (by omega)]
    rfl
   obtain ⟨lb, o', k1, k2, k3⟩ := ih (i + 1) (o ++ [b[i]]) (by omega) (by omega) (by simp; omega)
   refine ⟨lb, o', by rw [lres_next hr, k1], fun hl => ?_, fun hl => ?_⟩
   ·rw [k2 hl, hd, addC, if_pos (by omega), List.append_assoc]; rfl
   ·obtain ⟨q1, q2, q3⟩ := k3 hl
    refine ⟨by rw [q1, hd, List.append_assoc]; rfl, ?_, q3⟩
    rw [hd, addC, if_pos (by omega), q2]; rfl
  ·-- the row itself
   have hxe := (cR.zero _ _).1 hx
   have hb1 := hbn _ hm
   have w : w64 (n + b[i].n) = n + b[i].n := w64_eq (by omega) (by omega)
   have hadd : addC (b.drop i) r n = one1 r (n + b[i].n) ++ b.drop (i + 1) := by rw [hd, addC, if_neg (by omega), if_pos hx]
   have hr : (rd_zan_36_4 [.l (b.map Cnt.e), .l (re r), .i n, .b false, .i (i : Nat), .l (o.map Cnt.e)]).val = some (.next [.l (b.map Cnt.e), .l (re r), .i n, .b true, .i ((i + 1 : Nat) : Int), .l ((o ++ one1 r (n + b[i].n)).map Cnt.e)]) := by
    rw [map_app_e]
    by_cases hz : n + b[i].n = 0
    ·rw [hz, one1_0]
     simp only [rd_zan_36_4, rt_test, rt_next, rt_stop, el_map _ _ h, row_e, n_e, ln_map, inR_cast, Int.ofNat_lt, h, decide_true, if_true, hc, hx, ok_some', out_some, uI_0, beq_self_eq_true, e1, w, hz, bne_self_eq_false, Bool.false_eq_true, if_false, Bool.not_false, w64_succ (i := i) (by omega), List.map_nil, List.append_nil]
     rfl
    ·have hz' : (n + b[i].n != 0) = true := by simpa using hz
     rw [one1_e _ _ hz]
     simp only [rd_zan_36_4, rt_test, rt_next, rt_stop, el_map _ _ h, row_e, n_e, ln_map, inR_cast, Int.ofNat_lt, h, decide_true, if_true, hc, hx, ok_some', out_some, uI_0, beq_self_eq_true, e1, w, hz', bne_self_eq_false, Bool.false_eq_true, if_false, Bool.not_false, w64_succ (i := i) (by omega)]
     rfl
   have ho : (o ++ one1 r (n + b[i].n)).length ≤ i + 1 + 1 := by
    rw [List.length_append]; unfold one1; split <;> simp <;> omega
   have hl := add_laid b hb r n (b.length - (i + 1)) (i + 1) (o ++ one1 r (n + b[i].n)) rfl (by omega) ho hlen (fun c hc => by
    have := lt_ne (hrest c hc)
    rw [hxe] at this
    exact fun e => this e.symm)
   exact ⟨true, o ++ one1 r (n + b[i].n) ++ b.drop (i + 1), by rw [lres_next hr, hl], fun _ => by rw [hadd, List.append_assoc], fun h => (by cases h)⟩
  ·-- behind
   have hadd : addC (b.drop i) r n = one1 r n ++ b.drop i := by
    have h1 : ¬ cmpR b[i].row r < 0 := by omega
    have h2 : ¬ cmpR b[i].row r = 0 := by omega
    rw [hd, addC, if_neg h1, if_neg h2]
   have hr : (rd_zan_36_4 [.l (b.map Cnt.e), .l (re r), .i n, .b false, .i (i : Nat), .l (o.map Cnt.e)]).val = some (.next [.l (b.map Cnt.e), .l (re r), .i n, .b true, .i ((i + 1 : Nat) : Int), .l ((o ++ one1 r n ++ [b[i]]).map Cnt.e)]) := by
    rw [map_app_e, map_app_e, List.map_cons, List.map_nil, hbi]
    by_cases hz : n = 0
    ·rw [hz, one1_0]
     simp only [rd_zan_36_4, rt_test, rt_next, rt_stop, el_map _ _ h, row_e, n_e, ln_map, inR_cast, Int.ofNat_lt, h, decide_true, if_true, hc, hx, ok_some', out_some, uI_0, beq_self_eq_true, e1, bne_self_eq_false, Bool.false_eq_true, if_false, Bool.not_false, w64_succ (i := i) (by omega), List.map_nil, List.append_nil]
     rfl
    ·have hz' : (n != 0) = true := by simpa using hz
     rw [one1_e _ _ hz]
     simp only [rd_zan_36_4, rt_test, rt_next, rt_stop, el_map _ _ h, row_e, n_e, ln_map, inR_cast, Int.ofNat_lt, h, decide_true, if_true, hc, hx, ok_some', out_some, uI_0, beq_self_eq_true, e1, e2, hz', Bool.false_eq_true, if_false, Bool.not_false, w64_succ (i := i) (by omega)]
     rfl
   have ho : (o ++ one1 r n ++ [b[i]]).length ≤ i + 1 + 1 := by
    rw [List.length_append, List.length_append]; unfold one1; split <;> simp <;> omega
   have hl := add_laid b hb r n (b.length - (i + 1)) (i + 1) (o ++ one1 r n ++ [b[i]]) rfl (by omega) ho hlen (fun c hc e => by
    have h1 := hrest c hc
    rw [e] at h1
    omega)
   refine ⟨true, o ++ one1 r n ++ [b[i]] ++ b.drop (i + 1), by rw [lres_next hr, hl], fun _ => ?_, fun h => (by cases h)⟩
   rw [hadd, hd]
   simp

theorem Add_res5 (b : List Cnt) (hb : okB b) (hlen : b.length ≤ 4398046511102) (hr : rising b) (r : List Val) (n : Int) (hn : n.natAbs ≤ 2305843009213693952) (hbn : ∀ c ∈ b, c.n.natAbs ≤ 2305843009213693952) :
  (m_zan [.l (b.map Cnt.e), .l (re r), .i n]).res = some (0, [.l ((addC b r n).map Cnt.e)]) := by
 obtain ⟨lb, o', h1, h2, h3⟩ := add_loop b hb hlen hr r n hn hbn b.length 0 [] (by omega) (by omega) (by simp)
 simp only [Int.natCast_zero, List.map_nil, List.drop_zero, List.nil_append] at h1 h2 h3
 cases lb with
 | true =>
  rw [h2 rfl] at h1
  simp only [m_zan, h1, ok_some', out_some, res_test, res_stop, uB_s, uB_0, uL_s, uL_0, beq_self_eq_true, if_true, Bool.not_true, Bool.false_eq_true, if_false]
 | false =>
  obtain ⟨q1, q2, q3⟩ := h3 rfl
  subst q1
  have e1 : ((o'.map Cnt.e).length + 1) * 32 ≤ 140737488355328 := by rw [List.length_map]; omega
  rw [q2, map_app_e]
  by_cases hz : n = 0
  ·subst hz
   rw [one1_0]
   simp only [m_zan, h1, ok_some', out_some, res_test, res_stop, uB_s, uB_0, uI_s, uI_0, uL_s, uL_0, beq_self_eq_true, if_true, Bool.not_false, bne_self_eq_false, Bool.false_eq_true, if_false, List.map_nil, List.append_nil]
  ·have hz' : (n != 0) = true := by simpa using hz
   rw [one1_e _ _ hz]
   simp only [m_zan, h1, ok_some', out_some, res_test, res_stop, uB_s, uB_0, uI_s, uI_0, uL_s, uL_0, beq_self_eq_true, if_true, Bool.not_false, hz', e1, decide_true]

end Go.Proofs.YtkaljlpbmbfpgaaGreatDoor

set_option linter.unusedVariables false
set_option linter.unusedSimpArgs false
namespace Go.Proofs.YtkaljlpbmbfpgaaGreatDoor
open Go Go.Pu

theorem At.mono {l : List Rec} {a b : Val} {p q : Nat} (h : At l a p) (g : At l b q) (hab : cmpV a b < 0) : p ≤ q := by
 by_cases e : p ≤ q
 ·exact e
 ·exfalso
  have hq : q < l.length := by have := h.le; omega
  have h1 := h.lo q hq (by omega)
  have g1 := g.hi q hq (Nat.le_refl _)
  have := cV.lt_trans h1 hab
  omega

end Go.Proofs.YtkaljlpbmbfpgaaGreatDoor

set_option linter.unusedVariables false
set_option linter.unusedSimpArgs false
namespace Go.Proofs.YtkaljlpbmbfpgaaGreatDoor
open Go Go.Pu

theorem el_at {α : Type} (f : α → List PV) {l : List α} {i : Nat} (h : i < l.length) : el (l.map f) i = f l[i] := el_map f l h

/-! a table, by its name -/

/-! by a key -/

/-! between two keys -/

/-! the same reads -/

end Go.Proofs.YtkaljlpbmbfpgaaGreatDoor

set_option linter.unusedVariables false
set_option linter.unusedSimpArgs false
namespace Go.Proofs.YtkaljlpbmbfpgaaGreatDoor
open Go Go.Pu

/-- a loop that holds two lists against each other -/
theorem loop_eq {α : Type} [DecidableEq α] {a b : List α} (hl : a.length = b.length) {rd : List U → Rt} (st : Nat → List U) (j0 j1 : Nat) (u0 u1 : List U)
  (hend : (rd (st a.length)).val = some (.stop j1 u1))
  (hstep : ∀ i (h1 : i < a.length) (h2 : i < b.length), (rd (st i)).val = if a[i] = b[i] then some (.next (st (i + 1))) else some (.stop j0 u0)) :
  lres rd (st 0) = if a = b then some (j1, u1) else some (j0, u0) := by
 rcases loop_ix a.length st (fun i => decide (a[i]? = b[i]?)) j0 j1 (fun _ => u0) u1 hend (fun i h1 _ => by
   have h2 : i < b.length := by omega
   rw [hstep i h1 h2]; simp [h1, h2]) with ⟨h1, h2⟩ | ⟨i, hi, h1, _, h2⟩
 ·have he : a = b := List.ext_getElem? fun i => by
   by_cases hi : i < a.length
   ·simpa using h1 i hi
   ·rw [List.getElem?_eq_none (by omega), List.getElem?_eq_none (by omega)]
  rw [if_pos he, h2]
 ·have he : a ≠ b := fun e => by subst e; simp at h1
  rw [if_neg he, h2]

theorem cnt_ext {x y : Cnt} : (x.n = y.n ∧ x.row = y.row) ↔ x = y := by
 obtain ⟨a, b⟩ := x
 obtain ⟨a', b'⟩ := y
 simp [And.comm]

theorem R05_Same_res {a b : List Cnt} (ha : okB a) (hb : okB b) : (m_zbl [.l (a.map Cnt.e), .l (b.map Cnt.e)]).res = some (0, [.b (decide (a = b))]) := by
 have h0 := ha.1
 by_cases hl : a.length = b.length
 ·have h := loop_eq hl (rd := rd_zbl_19_4) (fun i => [.l (a.map Cnt.e), .l (b.map Cnt.e), .i (i : Nat)]) 0 1 [.b false] [] (by simp [rd_zbl_19_4]) (by
   intro i h1 h2
   have hc := R02_Compare_res a[i].row b[i].row (ha.2 _ (List.getElem_mem h1)).1.1
   have hz := cR.zero a[i].row b[i].row
   have hx := cnt_ext (x := a[i]) (y := b[i])
   by_cases he : a[i] = b[i]
   ·have hs := cR.self b[i].row
    rw [he] at hc
    simp [rd_zbl_19_4, el_at _ h1, el_at _ h2, h1, h2, Cnt.e, w64_succ (i := i) (by omega), he, hc, hs]
   ·by_cases hn : a[i].n = b[i].n
    ·have hr : ¬ cmpR a[i].row b[i].row = 0 := fun h => he (hx.1 ⟨hn, hz.1 h⟩)
     simp [rd_zbl_19_4, el_at _ h1, el_at _ h2, h1, h2, Cnt.e, he, hn, hc, hr]
    ·simp [rd_zbl_19_4, el_at _ h1, el_at _ h2, h1, h2, Cnt.e, he, hn])
  simp only [Int.natCast_zero] at h
  by_cases he : a = b
  ·subst he
   simp at h
   simp [m_zbl, h]
  ·rw [if_neg he] at h
   simp [m_zbl, h, hl, he]
 ·have hl' : ¬ (a.length : Int) = b.length := by omega
  have he : a ≠ b := fun e => hl (by rw [e])
  simp [m_zbl, hl', he]

/-! a view's rows -/

/-! is what was read so? -/

end Go.Proofs.YtkaljlpbmbfpgaaGreatDoor

set_option linter.unusedVariables false
set_option linter.unusedSimpArgs false
namespace Go.Proofs.YtkaljlpbmbfpgaaGreatDoor
open Go Go.Pu

end Go.Proofs.YtkaljlpbmbfpgaaGreatDoor

set_option linter.unusedVariables false
set_option linter.unusedSimpArgs false
namespace Go.Proofs.YtkaljlpbmbfpgaaGreatDoor
open Go Go.Pu

theorem sumB_okB {l : List Cnt} (h : okB l) (ha : absN l ≤ 4611686018427387904) : okB (sumB l) := by
 refine ⟨Nat.le_trans (sumB_len l) h.1, fun c hc => ?_⟩
 obtain ⟨d, hd, e⟩ := sumB_row hc
 refine ⟨by rw [← e]; exact (h.2 d hd).1, ?_⟩
 have := cnt_abs l c.row
 rw [sumB_n hc]
 unfold i64
 omega
theorem sumB_snoc (l : List Cnt) (c : Cnt) : sumB (l ++ [c]) = addC (sumB l) c.row c.n := by unfold sumB; rw [List.foldl_append]; rfl

/-! the reference's order of rows -/

end Go.Proofs.YtkaljlpbmbfpgaaGreatDoor

set_option linter.unusedVariables false
set_option linter.unusedSimpArgs false
namespace Go.Proofs.YtkaljlpbmbfpgaaGreatDoor
open Go Go.Pu

theorem dig_ext (d : Nat) (h : d < 10) : ByteArray.extract { data := #[(48 : UInt8), 49, 50, 51, 52, 53, 54, 55, 56, 57] } d (d + 1) = bs [UInt8.ofNat (48 + d)] := by
 have h2 : d = 0 ∨ d = 1 ∨ d = 2 ∨ d = 3 ∨ d = 4 ∨ d = 5 ∨ d = 6 ∨ d = 7 ∨ d = 8 ∨ d = 9 := by omega
 rcases h2 with rfl | rfl | rfl | rfl | rfl | rfl | rfl | rfl | rfl | rfl <;> exact (bs_ext [48, 49, 50, 51, 52, 53, 54, 55, 56, 57] _ _)

theorem digits_loop : ∀ (m n : Nat) (acc : List UInt8), n ≤ m → n < 18446744073709551616 → acc.length + Lib.nDigits n ≤ 100 →
  ∃ (t : Nat) (r : List UInt8), lres rd_zau_84_2 [.i (n : Nat), .s (bs acc)] = some (0, [.i (t : Nat), .s (bs r)]) ∧ t < 10 ∧ UInt8.ofNat (48 + t) :: r = Lib.decDigits n ++ acc ∧ r.length ≤ 100 := by
 intro m
 induction m with
 | zero =>
  intro n acc h1 h2 h3
  have : n = 0 := by omega
  subst this
  refine ⟨0, acc, lres_stop (by simp [rd_zau_84_2]), by decide, ?_, by omega⟩
  rw [Lib.decDigits_one (i := 0) (by decide)]; rfl
 | succ m ih =>
  intro n acc h1 h2 h3
  by_cases h : n < 10
  ·have hp := Lib.nDigits_pos n
   refine ⟨n, acc, lres_stop ?_, h, ?_, by omega⟩
   ·have : ¬ ((n : Nat) : Int) > 9 := by omega
    simp only [rd_zau_84_2, rt_test, rt_stop, this, decide_false, Bool.false_eq_true, if_false]
   ·rw [Lib.decDigits_one h]; rfl
  ·have hd : n % 10 < 10 := Nat.mod_lt _ (by decide)
   have c9 : ((n : Nat) : Int) > 9 := by omega
   have t1 : Int.tmod (n : Int) 10 = ((n % 10 : Nat) : Int) := rfl
   have t2 : Int.tdiv (n : Int) 10 = ((n / 10 : Nat) : Int) := rfl
   have w1 : IntKind.u64.wrap (((n % 10 : Nat) : Int) + 1) = ((n % 10 + 1 : Nat) : Int) := by rw [wrap_u64 (by omega) (by omega)]; omega
   have w2 : IntKind.u64.wrap ((n / 10 : Nat) : Int) = ((n / 10 : Nat) : Int) := wrap_u64 (by omega) (by omega)
   have d1 : decide ((0 : Int) ≤ ((n % 10 : Nat) : Int) ∧ ((n % 10 : Nat) : Int) ≤ ((n % 10 + 1 : Nat) : Int) ∧ ((n % 10 + 1 : Nat) : Int) ≤ 10) = true := by rw [decide_eq_true_eq]; omega
   have d2 : decide (1 + acc.length ≤ 9223372036854775807) = true := by rw [decide_eq_true_eq]; omega
   have hr : (rd_zau_84_2 [.i (n : Nat), .s (bs acc)]).val = some (.next [.i ((n / 10 : Nat) : Int), .s (bs (UInt8.ofNat (48 + n % 10) :: acc))]) := by
    simp only [rd_zau_84_2, rt_test, rt_next, rt_stop, c9, decide_true, if_true, t1, t2, w1, w2, d1, Int.toNat_natCast, dig_ext _ hd, bs_size, bs_app, List.length_singleton, d2, List.singleton_append]
   obtain ⟨t, r, k1, k2, k3, k4⟩ := ih (n / 10) (UInt8.ofNat (48 + n % 10) :: acc) (by omega) (by omega) (by
    rw [Lib.nDigits_big h] at h3
    simp only [List.length_cons]; omega)
   refine ⟨t, r, by rw [lres_next hr, k1], k2, ?_, k4⟩
   rw [k3]
   conv => rhs; rw [Lib.decDigits, dif_neg h]
   simp

theorem Digits_res (n : Nat) (h : n < 18446744073709551616) : (m_zau [.i (n : Nat)]).res = some (0, [.s (bs (Lib.decDigits n))]) := by
 have hn := nDig_le n h
 obtain ⟨t, r, k1, k2, k3, k4⟩ := digits_loop n n [] (Nat.le_refl _) h (by simp; omega)
 have w1 : IntKind.u64.wrap ((t : Int) + 1) = ((t + 1 : Nat) : Int) := by rw [wrap_u64 (by omega) (by omega)]; omega
 have d1 : decide ((0 : Int) ≤ (t : Int) ∧ (t : Int) ≤ ((t + 1 : Nat) : Int) ∧ ((t + 1 : Nat) : Int) ≤ 10) = true := by rw [decide_eq_true_eq]; omega
 have d2 : decide (1 + r.length ≤ 9223372036854775807) = true := by rw [decide_eq_true_eq]; omega
 have e0 : ({ data := #[] } : ByteArray) = bs [] := rfl
 rw [List.append_nil] at k3
 simp only [m_zau, e0, k1, ok_some', out_some, res_test, res_stop, uI_0, uS_0, uS_s, beq_self_eq_true, if_true, w1, d1, Int.toNat_natCast, dig_ext _ k2, bs_size, bs_app, List.length_singleton, d2, List.singleton_append, k3]

theorem Signed_res (n : Int) (h : i64 n) : (m_zav [.i n]).res = some (0, [.s (bs (Lib.itoa n))]) := by
 unfold i64 at h
 have hl := itoa_len (n := n) h
 unfold Lib.itoa at hl ⊢
 have e1 : ({ data := #[(45 : UInt8)] } : ByteArray) = bs [45] := rfl
 by_cases c : n < 0
 ·rw [if_pos c] at hl ⊢
  have w1 : w64 (n + 1) = n + 1 := w64_eq (by omega) (by omega)
  have w2 : w64 (0 - (n + 1)) = 0 - (n + 1) := w64_eq (by omega) (by omega)
  have w3 : IntKind.u64.wrap (0 - (n + 1)) = 0 - (n + 1) := wrap_u64 (by omega) (by omega)
  have w4 : IntKind.u64.wrap (0 - (n + 1) + 1) = (n.natAbs : Nat) := by rw [wrap_u64 (by omega) (by omega)]; omega
  have hd := Digits_res n.natAbs (by omega)
  have d1 : decide (1 + (Lib.decDigits n.natAbs).length ≤ 9223372036854775807) = true := by rw [decide_eq_true_eq]; rw [List.length_cons] at hl; omega
  simp only [m_zav, res_test, res_stop, c, decide_true, if_true, w1, w2, w3, w4, hd, ok_some', out_some, uS_0, beq_self_eq_true, bs_size, d1, e1, bs_app, List.singleton_append]
 ·rw [if_neg c]
  have w3 : IntKind.u64.wrap n = (n.toNat : Nat) := by rw [wrap_u64 (by omega) (by omega)]; omega
  have hd := Digits_res n.toNat (by omega)
  simp only [m_zav, res_test, res_stop, c, decide_false, Bool.false_eq_true, if_false, w3, hd, ok_some', out_some, uS_0, beq_self_eq_true, if_true]

theorem text_loop (k n : Int) (s : List UInt8) (hs : s.length ≤ 100000) : ∀ m i (o : List UInt8), s.length - i = m → i ≤ s.length → o.length ≤ 2 * i + 1 →
  lres rd_zaw_83_13 [.s (bs o), .i (i : Nat), .i k, .i n, .s (bs s)] = some (0, [.s (bs (o ++ dbl (s.drop i)))]) := by
 intro m
 induction m with
 | zero =>
  intro i o h1 h2 h3
  have : i = s.length := by omega
  subst this
  refine lres_stop ?_
  simp [rd_zaw_83_13]
 | succ m ih =>
  intro i o h1 h2 h3
  have h : i < s.length := by omega
  have w : w64 ((i : Int) + 1) = ((i + 1 : Nat) : Int) := w64_succ (by omega)
  have g : List.getD s i 0 = s[i] := by rw [List.getD, List.getElem?_eq_getElem h]; rfl
  have ex : (s.take (i + 1)).drop i = [s[i]] := by
   rw [List.drop_take, List.drop_eq_getElem_cons h, show i + 1 - i = 1 by omega]; rfl
  have d0 : ((i : Nat) : Int) < ((s.length : Nat) : Int) := by omega
  have d1 : decide ((0 : Int) ≤ ((i : Nat) : Int) ∧ ((i : Nat) : Int) ≤ ((i + 1 : Nat) : Int) ∧ ((i + 1 : Nat) : Int) ≤ ((s.length : Nat) : Int)) = true := by rw [decide_eq_true_eq]; omega
  have hi : inR ((i : Nat) : Int) ((s.length : Nat) : Int) = true := inR_iff.2 ⟨by omega, by omega⟩
  have e39 : ({ data := #[(39 : UInt8)] } : ByteArray) = bs [39] := rfl
  rw [List.drop_eq_getElem_cons h, dbl_cons]
  by_cases c : s[i] = 39
  ·have c2 : (((s[i].toNat : Nat) : Int) == 39) = true := by rw [c]; rfl
   have d2 : o.length + 1 ≤ 9223372036854775807 := by omega
   have d3 : decide ((o ++ [39]).length + 1 ≤ 9223372036854775807) = true := by rw [decide_eq_true_eq]; simp; omega
   have hr : (rd_zaw_83_13 [.s (bs o), .i (i : Nat), .i k, .i n, .s (bs s)]).val = some (.next [.s (bs (o ++ [39] ++ [s[i]])), .i ((i + 1 : Nat) : Int), .i k, .i n, .s (bs s)]) := by
    simp only [rd_zaw_83_13, rt_test, rt_next, rt_stop, bs_size, bs_data, d0, decide_true, hi, if_true, Int.toNat_natCast, g, c2, w, d1, d2, e39, bs_app, bs_ext, ex, List.length_singleton, d3]
   rw [lres_next hr, ih (i + 1) _ (by omega) (by omega) (by simp; omega), if_pos c, c]
   simp
  ·have c2 : (((s[i].toNat : Nat) : Int) == 39) = false := by
    rw [beq_eq_false_iff_ne]
    intro hh
    apply c
    apply UInt8.toNat_inj.1
    show s[i].toNat = 39
    omega
   have d2 : o.length + 1 ≤ 9223372036854775807 := by omega
   have hr : (rd_zaw_83_13 [.s (bs o), .i (i : Nat), .i k, .i n, .s (bs s)]).val = some (.next [.s (bs (o ++ [s[i]])), .i ((i + 1 : Nat) : Int), .i k, .i n, .s (bs s)]) := by
    simp only [rd_zaw_83_13, rt_test, rt_next, rt_stop, bs_size, bs_data, d0, decide_true, hi, if_true, Int.toNat_natCast, g, c2, w, d1, d2, bs_app, bs_ext, ex, List.length_singleton, Bool.false_eq_true, if_false]
   rw [lres_next hr, ih (i + 1) _ (by omega) (by omega) (by simp; omega), if_neg c]
   simp

theorem RText_res (v : Val) (hv : v.ok) (hs : v.s.length ≤ 100000) : (m_zaw [.i v.k, .i v.n, .s (bs v.s)]).res = some (0, [.s (bs (txt v))]) := by
 have h1 := Signed_res v.n hv.2.1
 have h2 := text_loop v.k v.n v.s hs v.s.length 0 [39] (by omega) (by omega) (by simp)
 have h3 := dbl_len v.s
 simp only [Int.natCast_zero, List.drop_zero] at h2
 have e39 : ({ data := #[(39 : UInt8)] } : ByteArray) = bs [39] := rfl
 have e1 : ({ data := #[(110 : UInt8), 117, 108, 108] } : ByteArray) = bs [110, 117, 108, 108] := rfl
 have e2 : ({ data := #[(102 : UInt8), 97, 108, 115, 101] } : ByteArray) = bs [102, 97, 108, 115, 101] := rfl
 have e3 : ({ data := #[(116 : UInt8), 114, 117, 101] } : ByteArray) = bs [116, 114, 117, 101] := rfl
 have e4 : ({ data := #[(63 : UInt8)] } : ByteArray) = bs [63] := rfl
 have d1 : decide (([39] ++ dbl v.s).length + 1 ≤ 9223372036854775807) = true := by rw [decide_eq_true_eq]; simp; omega
 unfold txt
 by_cases k0 : v.k = 0
 ·simp [m_zaw, k0, e1]
 by_cases k1 : v.k = 1
 ·by_cases n0 : v.n = 0
  ·simp [m_zaw, k1, n0, e2]
  ·simp [m_zaw, k1, n0, e3]
 by_cases k2 : v.k = 2
 ·simp [m_zaw, k2, h1]
 by_cases k3 : v.k = 3
 ·rw [k3] at h2
  have b0 : ((3 : Int) == 0) = false := rfl
  have b1 : ((3 : Int) == 1) = false := rfl
  have b2 : ((3 : Int) == 2) = false := rfl
  simp only [k3, m_zaw, res_test, res_stop, b0, b1, b2, Bool.false_eq_true, if_false, beq_self_eq_true, if_true, e39, h2, ok_some', out_some, uS_0, bs_size, d1, bs_app]
  rfl
 ·simp [m_zaw, k0, k1, k2, k3, e4]

theorem RrowText_res (r : List Val) (hr : okT r) : (m_zax [.l (re r)]).res = some (0, [.s (bs (txtR r))]) := by
 have hl := hr.2.1
 have hbody : ∀ i, i ≤ r.length → (bodyT (r.take i)).length ≤ 40006400 := fun i hi =>
  okT_len ⟨fun v hv => hr.1 v (List.mem_of_mem_take hv), by rw [List.length_take]; omega, fun v hv => hr.2.2 v (List.mem_of_mem_take hv)⟩
 have e0 : ({ data := #[(40 : UInt8)] } : ByteArray) = bs [40] := rfl
 have e1 : ({ data := #[(44 : UInt8), (32 : UInt8)] } : ByteArray) = bs [44, 32] := rfl
 have e2 : ({ data := #[(41 : UInt8)] } : ByteArray) = bs [41] := rfl
 have h := loop_acc (rd := rd_zax_66_3) r.length (fun i => [.l (re r), .s (bs (40 :: bodyT (r.take i))), .i (i : Nat)]) (some (0, [.s (bs (40 :: bodyT r))]))
  (lres_stop (by simp [rd_zax_66_3])) (by
  intro i h
  have hm := List.getElem_mem h
  have ht := RText_res r[i] (hr.1 _ hm) (hr.2.2 _ hm)
  have htl := txt_len (hr.1 _ hm)
  have hts := hr.2.2 _ hm
  have hb := hbody i (by omega)
  have v0 : cI (Val.e r[i]) 0 = r[i].k := rfl
  have v1 : cI (Val.e r[i]) 1 = r[i].n := rfl
  have v2 : cS (Val.e r[i]) 2 = bs r[i].s := rfl
  by_cases c : i = 0
  ·subst c
   have c0 : ¬ ((0 : Nat) : Int) > 0 := by omega
   have d1 : decide (([40] : List UInt8).length + (txt r[0]).length ≤ 9223372036854775807) = true := by rw [decide_eq_true_eq, List.length_singleton]; omega
   have e3 : bodyT (r.take (0 + 1)) = txt r[0] := by
    match r, h with
    | v :: r, _ => simp [bodyT, tlT]
   rw [e3]
   simp only [rd_zax_66_3, rt_test, rt_next, rt_stop, el_re _ h, v0, v1, v2, ln_re, inR_cast, Int.ofNat_lt, h, decide_true, if_true, c0, decide_false, Bool.false_eq_true, if_false, ht, ok_some', out_some, uS_0, beq_self_eq_true, bs_size, List.take_zero, show bodyT [] = [] from rfl, d1, bs_app, w64_succ (i := 0) (by omega)]
   rfl
  ·have c0 : ((i : Nat) : Int) > 0 := by omega
   have d0 : decide ((40 :: bodyT (r.take i)).length + 2 ≤ 9223372036854775807) = true := by rw [decide_eq_true_eq, List.length_cons]; omega
   have d1 : decide ((40 :: bodyT (r.take i) ++ [44, 32]).length + (txt r[i]).length ≤ 9223372036854775807) = true := by rw [decide_eq_true_eq]; simp; omega
   have e3 : bodyT (r.take (i + 1)) = bodyT (r.take i) ++ (44 :: 32 :: txt r[i]) := by
    rw [take_one r h]
    have h1 : bodyT [r[i]] = txt r[i] := by simp [bodyT, tlT]
    rw [← h1]
    refine body_app ?_ (by simp)
    intro hh
    have := congrArg List.length hh
    rw [List.length_take, List.length_nil] at this
    omega
   rw [e3]
   simp only [rd_zax_66_3, rt_test, rt_next, rt_stop, el_re _ h, v0, v1, v2, ln_re, inR_cast, Int.ofNat_lt, h, decide_true, if_true, c0, d0, e1, ht, ok_some', out_some, uS_0, beq_self_eq_true, bs_size, d1, bs_app, w64_succ (i := i) (by omega)]
   simp
   omega)
 simp only [Int.natCast_zero, List.take_zero, show bodyT [] = [] from rfl] at h
 have hb := okT_len hr
 have d2 : decide ((40 :: bodyT r).length + 1 ≤ 9223372036854775807) = true := by rw [decide_eq_true_eq, List.length_cons]; omega
 simp only [m_zax, e0, e2, h, ok_some', out_some, res_test, res_stop, uS_0, beq_self_eq_true, if_true, bs_size, d2, bs_app, txtR]
 rfl

theorem tlC_app (a b : List Cnt) : tlC (a ++ b) = tlC a ++ tlC b := by simp [tlC]
theorem txtB_snoc (b : List Cnt) (c : Cnt) : txtB (b ++ [c]) = if b.length = 0 then entT c else txtB b ++ (32 :: entT c) := by
 cases b with
 | nil => simp [txtB, tlC]
 | cons d b =>
  rw [if_neg (by simp)]
  show entT d ++ tlC (b ++ [c]) = entT d ++ tlC b ++ _
  rw [tlC_app]
  simp [tlC]

theorem RbagText_res (b : List Cnt) (hb : okB b) (h0 : b.length ≤ 1000000) : (m_zay [.l (b.map Cnt.e)]).res = some (0, [.s (bs (if mayB b = true then txtB b else []))]) := by
 have hm := R05_May_res b hb
 have eb : ({ data := #[] } : ByteArray) = bs [] := rfl
 cases e0 : mayB b with
 | false =>
  have hl : lres rd_zay_41_3 [.l (b.map Cnt.e), .s (bs []), .i 0] = some (0, [.s (bs [])]) := by
   refine lres_stop ?_
   by_cases hn : (0 : Int) < (b.length : Nat)
   ·simp only [rd_zay_41_3, rt_test, rt_stop, ln_map, hn, decide_true, if_true, hm, e0, ok_some', out_some, uB_0, beq_self_eq_true, Bool.false_eq_true, if_false]
   ·simp only [rd_zay_41_3, rt_test, rt_stop, ln_map, hn, decide_false, Bool.false_eq_true, if_false]
  simp only [m_zay, eb, hl, ok_some', out_some, res_test, res_stop, uS_0, beq_self_eq_true, if_true, Bool.false_eq_true, if_false]
 | true =>
  have hent : ∀ c ∈ b, (entT c).length ≤ 40006430 := fun c hc => entT_len (mayR_okT (hb.2 c hc).1 (mayB_row e0 hc)) (hb.2 c hc).2
  have h := loop_acc (rd := rd_zay_41_3) b.length (fun i => [.l (b.map Cnt.e), .s (bs (txtB (b.take i))), .i (i : Nat)]) (some (0, [.s (bs (txtB b))]))
   (lres_stop (by simp [rd_zay_41_3])) (by
   intro i h
   have hc := List.getElem_mem h
   have hok := mayR_okT (hb.2 _ hc).1 (mayB_row e0 hc)
   have ht := RrowText_res b[i].row hok
   have hl := txtR_len hok
   have hbl := txtB_len (b := b.take i) fun c hc => hent c (List.mem_of_mem_take hc)
   rw [List.length_take] at hbl
   have hbl2 : (txtB (b.take i)).length ≤ 1000000 * 40006431 := Nat.le_trans hbl (Nat.mul_le_mul_right _ (by omega))
   have hsg := Signed_res b[i].n (hb.2 _ hc).2
   have hit := itoa_len (hb.2 _ hc).2
   have e42 : ({ data := #[(42 : UInt8)] } : ByteArray) = bs [42] := rfl
   have e32 : ({ data := #[(32 : UInt8)] } : ByteArray) = bs [32] := rfl
   have hlen0 : (b.take i).length = i := by rw [List.length_take]; omega
   have hsn := txtB_snoc (b.take i) b[i]
   rw [← take_one b h, hlen0] at hsn
   have dn : decide (1 + (Lib.itoa b[i].n).length ≤ 9223372036854775807) = true := by rw [decide_eq_true_eq]; omega
   by_cases c0 : i = 0
   ·subst c0
    rw [if_pos rfl] at hsn
    have g0 : ¬ ((0 : Nat) : Int) > 0 := by omega
    have t0 : txtB (b.take 0) = [] := by simp [txtB]
    have d1 : decide (([] : List UInt8).length + (txtR b[0].row).length ≤ 9223372036854775807) = true := by rw [decide_eq_true_eq, List.length_nil]; omega
    by_cases c : b[0].n = 1
    ·have c' : (b[0].n != 1) = false := by simp [c]
     have ee : entT b[0] = txtR b[0].row := by unfold entT cntT; rw [if_pos c, List.append_nil]
     rw [hsn, ee]
     simp only [rd_zay_41_3, rt_test, rt_next, rt_stop, el_map _ _ h, row_e, n_e, ln_map, inR_cast, Int.ofNat_lt, h, decide_true, if_true, hm, e0, g0, decide_false, Bool.false_eq_true, if_false, t0, ht, ok_some', out_some, uB_0, uS_0, beq_self_eq_true, bs_size, d1, c', bs_app, List.nil_append, w64_succ (i := 0) (by omega)]
    ·have c' : (b[0].n != 1) = true := by simp [c]
     have ee : entT b[0] = txtR b[0].row ++ (([42] : List UInt8) ++ Lib.itoa b[0].n) := by unfold entT cntT; rw [if_neg c]; rfl
     have d2 : decide ((([] : List UInt8) ++ txtR b[0].row).length + (([42] : List UInt8) ++ Lib.itoa b[0].n).length ≤ 9223372036854775807) = true := by rw [decide_eq_true_eq]; simp; omega
     rw [hsn, ee]
     simp only [rd_zay_41_3, rt_test, rt_next, rt_stop, el_map _ _ h, row_e, n_e, ln_map, inR_cast, Int.ofNat_lt, h, decide_true, if_true, hm, e0, g0, decide_false, Bool.false_eq_true, if_false, t0, ht, hsg, dn, e42, ok_some', out_some, uB_0, uS_0, beq_self_eq_true, bs_size, d1, d2, c', bs_app, w64_succ (i := 0) (by omega)]
     simp
   ·rw [if_neg c0] at hsn
    have g0 : ((i : Nat) : Int) > 0 := by omega
    have d0 : decide ((txtB (b.take i)).length + 1 ≤ 9223372036854775807) = true := by rw [decide_eq_true_eq]; omega
    have d1 : decide ((txtB (b.take i) ++ [32]).length + (txtR b[i].row).length ≤ 9223372036854775807) = true := by rw [decide_eq_true_eq]; simp; omega
    by_cases c : b[i].n = 1
    ·have c' : (b[i].n != 1) = false := by simp [c]
     have ee : entT b[i] = txtR b[i].row := by unfold entT cntT; rw [if_pos c, List.append_nil]
     rw [hsn, ee]
     simp only [rd_zay_41_3, rt_test, rt_next, rt_stop, el_map _ _ h, row_e, n_e, ln_map, inR_cast, Int.ofNat_lt, h, decide_true, if_true, hm, e0, g0, d0, e32, ht, ok_some', out_some, uB_0, uS_0, beq_self_eq_true, bs_size, d1, c', bs_app, Bool.false_eq_true, if_false, w64_succ (i := i) (by omega)]
     simp
     omega
    ·have c' : (b[i].n != 1) = true := by simp [c]
     have ee : entT b[i] = txtR b[i].row ++ ([42] ++ Lib.itoa b[i].n) := by unfold entT cntT; rw [if_neg c]; rfl
     have d2 : decide ((txtB (b.take i) ++ [32] ++ txtR b[i].row).length + (([42] : List UInt8) ++ Lib.itoa b[i].n).length ≤ 9223372036854775807) = true := by rw [decide_eq_true_eq]; simp; omega
     rw [hsn, ee]
     simp only [rd_zay_41_3, rt_test, rt_next, rt_stop, el_map _ _ h, row_e, n_e, ln_map, inR_cast, Int.ofNat_lt, h, decide_true, if_true, hm, e0, g0, d0, e32, ht, hsg, dn, e42, ok_some', out_some, uB_0, uS_0, beq_self_eq_true, bs_size, d1, d2, c', bs_app, w64_succ (i := i) (by omega)]
     simp
     omega)
  simp only [Int.natCast_zero, List.take_zero, show txtB [] = [] from rfl] at h
  simp only [m_zay, eb, h, ok_some', out_some, res_test, res_stop, uS_0, beq_self_eq_true, if_true]

end Go.Proofs.YtkaljlpbmbfpgaaGreatDoor
