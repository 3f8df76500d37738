/- Texts of this seat, one behind the other. -/
import Derived.Test.YtikmahlogjcieaaVX
import Derived.Test.YtikmahlogjcieaaVZ
import Derived.Test.YtikmahlogjcieaaGX
set_option linter.unusedVariables false
set_option linter.unusedSimpArgs false
namespace Go.Proofs.Ytikmahlogjcieaa
open Go Go.Pu

/-- a sum over a bag, of what depends on the row, times the count -/
def lin (g : List Val → Int) : List Cnt → Int
  | [] => 0
  | c :: l => c.n * g c.row + lin g l

theorem lin_app (g : List Val → Int) (a b : List Cnt) : lin g (a ++ b) = lin g a + lin g b := by
  induction a with
  | nil => simp [lin]
  | cons c a ih => simp only [List.cons_append, lin, ih]; omega

theorem lin_one (g : List Val → Int) (r : List Val) (n : Int) : lin g (one1 r n) = n * g r := by
  unfold one1
  split
  · simp [lin]
  · rename_i h
    have : n = 0 := by simpa using h
    subst this; simp [lin]

theorem lin_addC (g : List Val → Int) : ∀ (b : List Cnt) (r : List Val) (n : Int), lin g (addC b r n) = lin g b + n * g r
  | [], r, n => by simp [addC, lin_one, lin]
  | c :: b, r, n => by
    rw [addC]
    split
    · simp only [lin, lin_addC g b r n]; omega
    · split
      · rename_i h
        have e := (cR.zero _ _).1 h
        rw [lin_app, lin_one, lin, e, Int.add_mul]; omega
      · rw [lin_app, lin_one]; omega

theorem lin_fold (g : List Val → Int) : ∀ (l b : List Cnt), lin g (l.foldl (fun b c => addC b c.row c.n) b) = lin g b + lin g l
  | [], b => by simp [lin]
  | c :: l, b => by rw [List.foldl_cons, lin_fold g l, lin_addC, lin]; omega

theorem lin_sum (g : List Val → Int) (l : List Cnt) : lin g (sumB l) = lin g l := by
  have := lin_fold g l []
  rw [show lin g [] = 0 from rfl, Int.zero_add] at this
  exact this

/-- what is linear depends on the counts alone -/
theorem lin_congr (g : List Val → Int) {a b : List Cnt} (h : ∀ r, cnt a r = cnt b r) : lin g a = lin g b := by
  rw [← lin_sum g a, ← lin_sum g b, sumB_congr h]

theorem lin_add (g f : List Val → Int) (a : List Cnt) : lin (fun r => g r + f r) a = lin g a + lin f a := by
  induction a with
  | nil => rfl
  | cons c a ih => simp only [lin, ih, Int.mul_add]; omega

theorem lin_ext {g f : List Val → Int} {a : List Cnt} (h : ∀ c ∈ a, g c.row = f c.row) : lin g a = lin f a := by
  induction a with
  | nil => rfl
  | cons c a ih => simp only [lin]; rw [h c (List.mem_cons_self ..), ih fun d hd => h d (List.mem_cons_of_mem _ hd)]

theorem lin_neg (g : List Val → Int) (a : List Cnt) : lin g (negB a) = - lin g a := by
  induction a with
  | nil => rfl
  | cons c a ih =>
    have : negB (c :: a) = ⟨c.row, -c.n⟩ :: negB a := rfl
    rw [this]
    simp only [lin, ih, Int.neg_mul]; omega

theorem sumN_lin (a : List Cnt) : sumN a = lin (fun _ => 1) a := by
  induction a with
  | nil => rfl
  | cons c a ih =>
    have : sumN (c :: a) = c.n + sumN a := by simp [sumN]
    rw [this, ih]; simp [lin]

/-! products -/

/-- a row's value in a column; null, if there is none -/
def atV (r : List Val) (n : Int) : Val := if 0 ≤ n ∧ n < r.length then r.getD n.toNat nul else nul
def meetR (i j : Int) (a b : List Val) : Bool := decide (atV a i = atV b j ∧ (atV a i).k ≠ 0)
def pairC (a b : Cnt) : Cnt := ⟨a.row ++ b.row, a.n * b.n⟩
def pairs1 (i j : Int) (a : Cnt) (B : List Cnt) : List Cnt := (B.filter fun b => meetR i j a.row b.row).map (pairC a)
def pairsL (i j : Int) (A B : List Cnt) : List Cnt := A.flatMap fun a => pairs1 i j a B

/-- how often a row is there among the pairs of one row and a bag -/
def gOne (i j : Int) (r a b : List Val) : Int := if meetR i j a b = true ∧ a ++ b = r then 1 else 0

theorem pairs1_cnt (i j : Int) (r : List Val) (a : Cnt) (B : List Cnt) : cnt (pairs1 i j a B) r = a.n * lin (gOne i j r a.row) B := by
  induction B with
  | nil => simp [pairs1, lin]
  | cons b B ih =>
    have e : pairs1 i j a (b :: B) = (if meetR i j a.row b.row = true then [pairC a b] else []) ++ pairs1 i j a B := by
      unfold pairs1
      rw [List.filter_cons]
      split <;> simp
    rw [e, cnt_app, ih, lin, Int.mul_add]
    congr 1
    unfold gOne
    by_cases h1 : meetR i j a.row b.row = true
    · by_cases h2 : a.row ++ b.row = r
      · simp [h1, h2, pairC, cnt_cons]
      · simp [h1, h2, pairC, cnt_cons]
    · simp [h1]

theorem pairs_cnt (i j : Int) (r : List Val) (A B : List Cnt) : cnt (pairsL i j A B) r = lin (fun a => lin (gOne i j r a) B) A := by
  induction A with
  | nil => rfl
  | cons a A ih =>
    have e : pairsL i j (a :: A) B = pairs1 i j a B ++ pairsL i j A B := rfl
    rw [e, cnt_app, ih, pairs1_cnt, lin]

theorem pairs_congr (i j : Int) {A A' B B' : List Cnt} (h1 : ∀ r, cnt A r = cnt A' r) (h2 : ∀ r, cnt B r = cnt B' r) (r : List Val) : cnt (pairsL i j A B) r = cnt (pairsL i j A' B') r := by
  rw [pairs_cnt, pairs_cnt, lin_congr _ h1]
  exact lin_ext fun c _ => lin_congr _ h2

theorem pairs_addL (i j : Int) (r : List Val) (A A' B : List Cnt) : cnt (pairsL i j (A ++ A') B) r = cnt (pairsL i j A B) r + cnt (pairsL i j A' B) r := by
  rw [pairs_cnt, pairs_cnt, pairs_cnt, lin_app]
theorem pairs_addR (i j : Int) (r : List Val) (A B B' : List Cnt) : cnt (pairsL i j A (B ++ B')) r = cnt (pairsL i j A B) r + cnt (pairsL i j A B') r := by
  rw [pairs_cnt, pairs_cnt, pairs_cnt, ← lin_add]
  exact lin_ext fun c _ => lin_app _ _ _
theorem pairs_negL (i j : Int) (r : List Val) (A B : List Cnt) : cnt (pairsL i j (negB A) B) r = - cnt (pairsL i j A B) r := by
  rw [pairs_cnt, pairs_cnt, lin_neg]
theorem pairs_negR (i j : Int) (r : List Val) (A B : List Cnt) : cnt (pairsL i j A (negB B)) r = - cnt (pairsL i j A B) r := by
  rw [pairs_cnt, pairs_cnt, ← Int.neg_one_mul]
  have : ∀ (g : List Val → Int) (l : List Cnt), lin (fun x => -g x) l = -1 * lin g l := fun g l => by
    induction l with
    | nil => rfl
    | cons c l ih => simp only [lin, ih, Int.mul_neg]; omega
  rw [← this]
  exact lin_ext fun c _ => lin_neg _ _

theorem pairs_mem {i j : Int} {A B : List Cnt} {c : Cnt} (h : c ∈ pairsL i j A B) : ∃ a ∈ A, ∃ b ∈ B, meetR i j a.row b.row = true ∧ c = pairC a b := by
  obtain ⟨a, ha, h⟩ := List.mem_flatMap.1 h
  obtain ⟨b, hb, rfl⟩ := List.mem_map.1 h
  obtain ⟨hb, hm⟩ := List.mem_filter.1 hb
  exact ⟨a, ha, b, hb, hm, rfl⟩

theorem pairs1_len (i j : Int) (a : Cnt) (B : List Cnt) : (pairs1 i j a B).length ≤ B.length := by
  unfold pairs1
  rw [List.length_map]; exact List.length_filter_le _ _
theorem pairs_len (i j : Int) (A B : List Cnt) : (pairsL i j A B).length ≤ A.length * B.length := by
  induction A with
  | nil => simp [pairsL]
  | cons a A ih =>
    have e : pairsL i j (a :: A) B = pairs1 i j a B ++ pairsL i j A B := rfl
    have := pairs1_len i j a B
    rw [e, List.length_append, List.length_cons, Nat.succ_mul]; omega

/-- may a pair be? -/
def pairOk (c : Cnt) : Bool := decide (c.row.length ≤ 40) && fitsN c.n
def manyOk (L : List Cnt) : Bool := decide (L.length ≤ 10000) && L.all pairOk

/-- a product, and what is wrong with it -/
def prodV (w : List UInt8) (i j : Int) (A B : List Cnt) : List Cnt × Int :=
  if mayB A = true ∧ mayB B = true then
    if w = [] then (A, 0) else
    if manyOk (pairsL i j A B) = true ∧ mayB (sumB (pairsL i j A B)) = true then (sumB (pairsL i j A B), 0) else ([], 100)
  else ([], 0)

/-- what may be of two rows, may be of both, joined -/
theorem mayR_app {a b : List Val} (h : (a ++ b).length ≤ 40) (ha : mayR a = true) (hb : mayR b = true) : mayR (a ++ b) = true := by
  unfold mayR at *
  simp only [Bool.and_eq_true, decide_eq_true_eq, List.all_append] at *
  exact ⟨h, ha.2, hb.2⟩

theorem pairs_row {i j : Int} {A B : List Cnt} (hA : mayB A = true) (hB : mayB B = true) (hL : (pairsL i j A B).all pairOk = true) : ∀ c ∈ pairsL i j A B, mayR c.row = true := by
  intro c hc
  obtain ⟨a, ha, b, hb, _, rfl⟩ := pairs_mem hc
  have h1 := List.all_eq_true.1 hL _ hc
  unfold pairOk at h1
  rw [Bool.and_eq_true, decide_eq_true_eq] at h1
  exact mayR_app h1.1 (mayB_row hA ha) (mayB_row hB hb)

theorem prodV_may (w : List UInt8) (i j : Int) (A B : List Cnt) : mayB (prodV w i j A B).1 = true := by
  unfold prodV
  split
  · rename_i h
    split
    · exact h.1
    · split
      · rename_i h2; exact h2.2
      · exact mayB_nil
  · exact mayB_nil

theorem prodV_ok {w : List UInt8} {i j : Int} {A B : List Cnt} (hw : w ≠ []) (hA : mayB A = true) (hB : mayB B = true) (h : (prodV w i j A B).2 = 0) : (prodV w i j A B).1 = sumB (pairsL i j A B) := by
  unfold prodV at h ⊢
  rw [if_pos ⟨hA, hB⟩, if_neg hw] at h ⊢
  split
  · rfl
  · rename_i h2; rw [if_neg h2] at h; cases h

theorem prodV_err {w : List UInt8} {i j : Int} {A B : List Cnt} (h : (prodV w i j A B).2 ≠ 0) : (prodV w i j A B) = ([], 100) := by
  unfold prodV at h ⊢
  split
  · rename_i h1
    rw [if_pos h1] at h
    split
    · rename_i h2; rw [if_pos h2] at h; exact absurd rfl h
    · rename_i h2
      rw [if_neg h2] at h
      split
      · rename_i h3; rw [if_pos h3] at h; exact absurd rfl h
      · rfl
  · rename_i h1; rw [if_neg h1] at h; exact absurd rfl h

/-! what stays -/

def keepB (p : List Val → Bool) (B : List Cnt) : List Cnt := B.filter fun c => p c.row
theorem keep_cnt (p : List Val → Bool) (B : List Cnt) (r : List Val) : cnt (keepB p B) r = if p r = true then cnt B r else 0 := by
  induction B with
  | nil => simp [keepB]
  | cons c B ih =>
    have e : keepB p (c :: B) = (if p c.row = true then [c] else []) ++ keepB p B := by
      unfold keepB
      rw [List.filter_cons]
      split <;> simp
    rw [e, cnt_app, ih, cnt_cons]
    by_cases h1 : c.row = r
    · subst h1
      by_cases h2 : p c.row = true
      · simp [h2, cnt_cons]
      · simp [h2]
    · by_cases h2 : p c.row = true
      · simp [h2, h1, cnt_cons]
      · simp [h2, h1]
theorem keep_rising {p : List Val → Bool} {B : List Cnt} (h : rising B) : rising (keepB p B) := h.sublist List.filter_sublist
theorem keep_canon {p : List Val → Bool} {B : List Cnt} (h : canon B) : canon (keepB p B) := ⟨keep_rising h.1, fun c hc => h.2 c (List.mem_filter.1 hc).1⟩
theorem keep_may {p : List Val → Bool} {B : List Cnt} (h : mayB B = true) : mayB (keepB p B) = true := by
  obtain ⟨h1, h2⟩ := mayB_iff.1 h
  exact mayB_iff.2 ⟨keep_rising h1, fun c hc => h2 c (List.mem_filter.1 hc).1⟩

/-- what stays, and what is wrong: f tells of a row whether it stays, and what is wrong -/
def whereF (f : List Val → Bool × Int) : List Cnt → List Cnt × Int
  | [] => ([], 0)
  | c :: B => if (f c.row).2 ≠ 0 then ([], (f c.row).2) else
    let r := whereF f B
    if r.2 ≠ 0 then ([], r.2) else ((if (f c.row).1 = true then [c] else []) ++ r.1, 0)

theorem whereF_ok {f : List Val → Bool × Int} : ∀ {B : List Cnt}, (whereF f B).2 = 0 ↔ ∀ c ∈ B, (f c.row).2 = 0
  | [] => by simp [whereF]
  | c :: B => by
    unfold whereF
    by_cases h : (f c.row).2 = 0
    · rw [if_neg (by simpa using h)]
      by_cases h2 : (whereF f B).2 = 0
      · simp only [h2, ne_eq, not_true, if_false, true_iff]
        have := whereF_ok.1 h2
        exact fun d hd => by
          rcases List.mem_cons.1 hd with rfl | hd
          · exact h
          · exact this d hd
      · simp only [ne_eq, h2, not_false_iff, if_true, false_iff]
        intro hh
        exact h2 (whereF_ok.2 fun d hd => hh d (List.mem_cons_of_mem _ hd))
    · rw [if_pos h]
      simp only [h, false_iff]
      exact fun hh => h (hh c (List.mem_cons_self ..))

theorem whereF_eq {f : List Val → Bool × Int} : ∀ {B : List Cnt}, (whereF f B).2 = 0 → (whereF f B).1 = keepB (fun r => (f r).1) B
  | [], _ => rfl
  | c :: B, h => by
    have h1 := whereF_ok.1 h
    have h2 : (whereF f B).2 = 0 := whereF_ok.2 fun d hd => h1 d (List.mem_cons_of_mem _ hd)
    unfold whereF
    rw [if_neg (by simpa using h1 c (List.mem_cons_self ..))]
    simp only [h2, ne_eq, not_true, if_false]
    rw [whereF_eq h2]
    unfold keepB
    rw [List.filter_cons]
    split <;> rfl

theorem whereF_nil {f : List Val → Bool × Int} : ∀ {B : List Cnt}, (whereF f B).2 ≠ 0 → (whereF f B).1 = [] ∧ ∃ c ∈ B, (whereF f B).2 = (f c.row).2
  | [], h => absurd rfl h
  | c :: B, h => by
    unfold whereF at h ⊢
    by_cases h1 : (f c.row).2 ≠ 0
    · rw [if_pos h1]; exact ⟨rfl, c, List.mem_cons_self .., rfl⟩
    · rw [if_neg h1] at h ⊢
      by_cases h2 : (whereF f B).2 ≠ 0
      · simp only [h2, ne_eq, not_false_iff, if_true]
        obtain ⟨_, d, hd, e⟩ := whereF_nil h2
        exact ⟨trivial, d, List.mem_cons_of_mem _ hd, e⟩
      · simp only [h2, if_false] at h; exact absurd rfl h

def whereV (f : List Val → Bool × Int) (B : List Cnt) : List Cnt × Int := if mayB B = true then whereF f B else ([], 0)

end Go.Proofs.Ytikmahlogjcieaa

set_option linter.unusedVariables false
set_option linter.unusedSimpArgs false
namespace Go.Proofs.Ytikmahlogjcieaa
open Go Go.Pu

def u8k (x : Int) : UInt8 := UInt8.ofNat (x % 256).toNat
/-- a whole number, moved to begin at nought -/
def N64k (w : Int) : Int := (w + 9223372036854775808) % 18446744073709551616
def num8k (w : Int) : List UInt8 :=
  [u8k (N64k w / 72057594037927936), u8k (N64k w / 281474976710656), u8k (N64k w / 1099511627776), u8k (N64k w / 4294967296), u8k (N64k w / 16777216), u8k (N64k w / 65536), u8k (N64k w / 256), u8k (N64k w)]

/-- a text's bytes, as they are put -/
def escK : List UInt8 → List UInt8
  | [] => []
  | b :: r => if b = 0 then 0 :: 255 :: escK r else b :: escK r

/-- a value's bytes -/
def encV (v : Val) : List UInt8 :=
  u8k (v.k + 1) :: (if v.k = 1 then [u8k v.n] else if v.k = 2 then num8k v.n else if v.k = 3 then escK v.s ++ [0, 1] else [])

theorem u8k_nat (x : Int) : ((u8k x).toNat : Int) = x % 256 := by
  have h0 : 0 ≤ x % 256 := Int.emod_nonneg _ (by decide)
  have h1 : x % 256 < 256 := Int.emod_lt_of_pos _ (by decide)
  unfold u8k
  rw [UInt8.toNat_ofNat']
  omega

theorem u8k_eq {x y : Int} : u8k x = u8k y ↔ x % 256 = y % 256 := by
  rw [← UInt8.toNat_inj]
  have h1 := u8k_nat x
  have h2 := u8k_nat y
  omega

theorem escK_append : ∀ a b, escK (a ++ b) = escK a ++ escK b
  | [], b => rfl
  | x :: a, b => by
    simp only [List.cons_append, escK, escK_append a b]
    split <;> rfl

theorem escK_length : ∀ a, (escK a).length ≤ 2 * a.length
  | [] => by simp [escK]
  | x :: a => by
    have := escK_length a
    simp only [escK]
    split <;> simp only [List.length_cons] <;> omega

theorem escK_take {l : List UInt8} {i : Nat} (h : i < l.length) : escK (l.take (i + 1)) = escK (l.take i) ++ escK [l[i]] := by
  rw [← escK_append, List.take_add_one]
  simp [h]

theorem escK_inj : ∀ {s t : List UInt8}, escK s ++ [0, 1] = escK t ++ [0, 1] → s = t
  | [], [], _ => rfl
  | [], b :: t, h => by
    exfalso
    simp only [escK] at h
    split at h
    · simp at h
    · rename_i hb
      simp only [List.nil_append, List.cons_append, List.cons.injEq] at h
      exact hb h.1.symm
  | a :: s, [], h => by
    exfalso
    simp only [escK] at h
    split at h
    · simp at h
    · rename_i hb
      simp only [List.nil_append, List.cons_append, List.cons.injEq] at h
      exact hb h.1
  | a :: s, b :: t, h => by
    simp only [escK] at h
    split at h <;> split at h
    · rename_i ha hb
      simp only [List.cons_append, List.cons.injEq, true_and] at h
      rw [ha, hb, escK_inj h]
    · rename_i ha hb
      simp only [List.cons_append, List.cons.injEq] at h
      exact absurd h.1.symm hb
    · rename_i ha hb
      simp only [List.cons_append, List.cons.injEq] at h
      exact absurd h.1 ha
    · simp only [List.cons_append, List.cons.injEq] at h
      rw [h.1, escK_inj h.2]

/-- digits to the base 256, the greatest first -/
def digK : Nat → Int → List UInt8
  | 0, _ => []
  | n + 1, x => u8k (x / 256 ^ n) :: digK n x

theorem num8k_dig (w : Int) : num8k w = digK 8 (N64k w) := by simp [num8k, digK]

theorem digK_inj : ∀ (n : Nat) (x y : Int), x / 256 ^ n = y / 256 ^ n → digK n x = digK n y → x = y
  | 0, x, y, h, _ => by simpa using h
  | n + 1, x, y, h, hd => by
    have hp : (0 : Int) < 256 ^ n := Int.pow_pos (by decide)
    have e : ∀ z : Int, z / 256 ^ (n + 1) = z / 256 ^ n / 256 := fun z => by
      rw [Int.pow_succ, Int.ediv_ediv_of_nonneg (Int.le_of_lt hp)]
    rw [e, e] at h
    simp only [digK, List.cons.injEq] at hd
    have := u8k_eq.1 hd.1
    exact digK_inj n x y (by omega) hd.2

theorem mayV_cases {v : Val} (h : mayV v = true) : (v.k = 0 ∧ v.n = 0 ∧ v.s = []) ∨ (v.k = 1 ∧ (v.n = 0 ∨ v.n = 1) ∧ v.s = []) ∨ (v.k = 2 ∧ v.s = []) ∨ (v.k = 3 ∧ v.n = 0 ∧ v.s.length ≤ 1000) := by
  unfold mayV at h
  split at h
  · simp_all
  · split at h
    · simp_all
    · split at h
      · simp_all
      · simp only [Bool.and_eq_true, decide_eq_true_eq, beq_iff_eq] at h
        exact .inr (.inr (.inr ⟨h.1.1, h.1.2, h.2⟩))

theorem valE {v w : Val} (h1 : v.k = w.k) (h2 : v.n = w.n) (h3 : v.s = w.s) : v = w := by
  obtain ⟨_, _, _⟩ := v; obtain ⟨_, _, _⟩ := w; simp only at h1 h2 h3; subst h1; subst h2; subst h3; rfl

theorem encV_inj {v w : Val} (hv : mayV v = true) (hw : mayV w = true) (iv : i64 v.n) (iw : i64 w.n) (h : encV v = encV w) : v = w := by
  unfold encV at h
  simp only [List.cons.injEq] at h
  obtain ⟨h0, h⟩ := h
  have h0 := u8k_eq.1 h0
  rcases mayV_cases hv with ⟨a1, a2, a3⟩ | ⟨a1, a2, a3⟩ | ⟨a1, a3⟩ | ⟨a1, a2, a3⟩ <;> rcases mayV_cases hw with ⟨b1, b2, b3⟩ | ⟨b1, b2, b3⟩ | ⟨b1, b3⟩ | ⟨b1, b2, b3⟩ <;> rw [a1, b1] at h0 h <;> try (omega)
  · exact valE (by rw [a1, b1]) (by rw [a2, b2]) (by rw [a3, b3])
  · simp at h
    have := u8k_eq.1 h
    exact valE (by rw [a1, b1]) (by rcases a2 with a2 | a2 <;> rcases b2 with b2 | b2 <;> rw [a2, b2] at this ⊢ <;> simp at this) (by rw [a3, b3])
  · simp only [show ¬ ((2 : Int) = 1) by decide, if_false, if_true] at h
    rw [num8k_dig, num8k_dig] at h
    have e1 : N64k v.n = v.n + 9223372036854775808 := by unfold N64k; unfold i64 at iv; omega
    have e2 : N64k w.n = w.n + 9223372036854775808 := by unfold N64k; unfold i64 at iw; omega
    have := digK_inj 8 _ _ (by
      rw [e1, e2]
      unfold i64 at iv iw
      rw [Int.ediv_eq_zero_of_lt (by omega) (by simp; omega), Int.ediv_eq_zero_of_lt (by omega) (by simp; omega)]) h
    exact valE (by rw [a1, b1]) (by omega) (by rw [a3, b3])
  · simp only [show ¬ ((3 : Int) = 1) by decide, show ¬ ((3 : Int) = 2) by decide, if_false, if_true] at h
    exact valE (by rw [a1, b1]) (by rw [a2, b2]) (escK_inj h)

/-! bytes as cells -/

def bcK (l : List UInt8) : List (List PV) := l.map fun b => [.int .u8 (b.toNat : Int)]
theorem bcK_append (a b : List UInt8) : bcK (a ++ b) = bcK a ++ bcK b := by simp [bcK]
theorem bcK_length (a : List UInt8) : (bcK a).length = a.length := by simp [bcK]

theorem cell_u8k (x : Int) : [[PV.int IntKind.u8 (IntKind.u8.wrap x)]] = bcK [u8k x] := by
  simp only [bcK, List.map_cons, List.map_nil]
  rw [u8k_nat, IntKind.wrap_u8]

theorem N64k_eq (w : Int) : IntKind.u64.wrap (IntKind.u64.wrap w + 9223372036854775808) = N64k w := by
  rw [IntKind.wrap_u64, IntKind.wrap_u64, N64k]; omega

theorem strOf_bcK (l : List UInt8) : strOf (bcK l) = bs l := by
  unfold strOf bcK bs
  congr 2
  rw [List.map_map]
  conv => rhs; rw [← List.map_id l]
  congr 1
  funext b
  simp [PV.toI]

end Go.Proofs.Ytikmahlogjcieaa

set_option linter.unusedVariables false
set_option linter.unusedSimpArgs false
namespace Go.Proofs.Ytikmahlogjcieaa
open Go Go.Pu

theorem sh8 : ∀ i : Nat, i < 8 → (2 : Int) ^ min (Int.toNat (w64 (8 * w64 (7 - (i : Int))))) 64 = 256 ^ (7 - i) ∧ ¬ w64 (8 * w64 (7 - (i : Int))) < 0 := by decide

theorem dig_at (N : Int) : ∀ i : Nat, i < 8 → (digK 8 N).take (i + 1) = (digK 8 N).take i ++ [u8k (N / 256 ^ (7 - i))]
  | 0, _ => rfl
  | 1, _ => rfl
  | 2, _ => rfl
  | 3, _ => rfl
  | 4, _ => rfl
  | 5, _ => rfl
  | 6, _ => rfl
  | 7, _ => rfl
  | n + 8, h => by omega

theorem num_loop (n : Int) (a : List (List PV)) (ha : a.length ≤ 1000000) : lres rd_key_Encode_56_8 [.i (N64k n), .i 0, .l a] = some (0, [.l (a ++ bcK (num8k n))]) := by
  have h := loop_acc (rd := rd_key_Encode_56_8) 8 (fun i => [.i (N64k n), .i (i : Nat), .l (a ++ bcK ((digK 8 (N64k n)).take i))]) (some (0, [.l (a ++ bcK (num8k n))]))
    (lres_stop (by simp [rd_key_Encode_56_8]; rw [num8k_dig]; rfl)) (by
    intro i hi
    obtain ⟨h1, h2⟩ := sh8 i hi
    have e1 : ((a ++ bcK ((digK 8 (N64k n)).take i)).length + 1) * 1 ≤ 140737488355328 := by
      rw [List.length_append, bcK_length, List.length_take]; omega
    have e2 : (i : Int) < 8 := by omega
    have e3 : a ++ bcK ((digK 8 (N64k n)).take i) ++ [[PV.int IntKind.u8 (IntKind.wrap IntKind.u8 (Int.fdiv (N64k n) (256 ^ (7 - i))))]] = a ++ bcK ((digK 8 (N64k n)).take (i + 1)) := by
      rw [dig_at _ i hi, bcK_append, Int.fdiv_eq_ediv_of_nonneg _ (Int.pow_nonneg (by decide)), cell_u8k, List.append_assoc]
    simp only [rd_key_Encode_56_8, rt_test, rt_next, e2, h1, h2, e1, e3, decide_true, decide_false, Bool.false_eq_true, if_true, if_false, w64_succ (i := i) (by omega)])
  simp only [List.take_zero, Int.natCast_zero, bcK, List.map_nil, List.append_nil] at h
  exact h

theorem text_loopK (s : List UInt8) (hs : s.length ≤ 1000000) (a : List (List PV)) (ha : a.length ≤ 1000000) (k n : Int) : lres rd_key_Encode_56_14 [.i (s.length : Nat), .i 0, .l a, .i k, .i n, .s (bs s)] = some (0, [.l (a ++ bcK (escK s))]) := by
  have h := loop_acc (rd := rd_key_Encode_56_14) s.length (fun i => [.i (s.length : Nat), .i (i : Nat), .l (a ++ bcK (escK (s.take i))), .i k, .i n, .s (bs s)]) (some (0, [.l (a ++ bcK (escK s))]))
    (lres_stop (by simp [rd_key_Encode_56_14])) (by
    intro i hi
    have el : (a ++ bcK (escK (s.take i))).length ≤ 1000000 + 2 * 1000000 := by
      rw [List.length_append, bcK_length]
      have := escK_length (s.take i)
      rw [List.length_take] at this
      omega
    have e1 : ((a ++ bcK (escK (s.take i))).length + 1) * 1 ≤ 140737488355328 := by omega
    have e2 : (i : Int) < (s.length : Int) := by omega
    have e4 : ∀ x : List PV, ((a ++ bcK (escK (s.take i)) ++ [x]).length + 1) * 1 ≤ 140737488355328 := fun x => by rw [List.length_append]; simp only [List.length_singleton]; omega
    have e5 : List.getD s i 0 = s[i] := by rw [List.getD, List.getElem?_eq_getElem hi]; rfl
    by_cases hb : s[i] = 0
    · have e3 : a ++ bcK (escK (s.take i)) ++ [[PV.int IntKind.u8 (((0 : UInt8).toNat : Nat) : Int)]] ++ [[PV.int IntKind.u8 255]] = a ++ bcK (escK (s.take (i + 1))) := by
        rw [escK_take hi, hb, bcK_append, List.append_assoc, List.append_assoc]; rfl
      have e6 : (((0 : UInt8).toNat : Nat) : Int) = 0 := rfl
      simp only [rd_key_Encode_56_14, rt_test, rt_next, bs_size, inR_cast, Int.ofNat_lt, hi, e2, e1, e4, bs_data, Int.toNat_natCast, e5, hb, e6, beq_self_eq_true, decide_true, if_true, w64_succ (i := i) (by omega)]
      rw [← e3, e6]
    · have hb' : ¬ ((s[i].toNat : Nat) : Int) = 0 := fun h => hb (by
        have : s[i].toNat = 0 := by omega
        exact UInt8.toNat_inj.1 (by simpa using this))
      have hb2 : (((s[i].toNat : Nat) : Int) == 0) = false := by simpa using hb'
      have e3 : a ++ bcK (escK (s.take i)) ++ [[PV.int IntKind.u8 ((s[i].toNat : Nat) : Int)]] = a ++ bcK (escK (s.take (i + 1))) := by
        rw [escK_take hi, bcK_append, List.append_assoc]
        have : escK [s[i]] = [s[i]] := by simp [escK, hb]
        rw [this]; rfl
      simp only [rd_key_Encode_56_14, rt_test, rt_next, bs_size, inR_cast, Int.ofNat_lt, hi, e2, e1, e4, bs_data, Int.toNat_natCast, e5, hb2, Bool.false_eq_true, if_false, decide_true, if_true, e3, w64_succ (i := i) (by omega)])
  simp only [List.take_zero, Int.natCast_zero, bcK, escK, List.map_nil, List.append_nil] at h
  exact h

theorem Encode1_res (v : Val) (hv : v.ok) : (m_key_Encode [.l [[pI v.k, pI v.n, pS (bs v.s)]]]).res = some (0, [.s (bs (if mayV v = true then encV v else []))]) := by
  have h0 := value_May_res v
  have eE : el [[pI v.k, pI v.n, pS (bs v.s)]] 0 = [pI v.k, pI v.n, pS (bs v.s)] := rfl
  have eL : ln [[pI v.k, pI v.n, pS (bs v.s)]] = 1 := rfl
  by_cases hm : mayV v = true
  · -- one round
    have hk : w64 (v.k + 1) = v.k + 1 := by
      rcases mayV_cases hm with ⟨a, _⟩ | ⟨a, _⟩ | ⟨a, _⟩ | ⟨a, _⟩ <;> rw [a] <;> decide
    have c0 : [[PV.int IntKind.u8 (IntKind.wrap IntKind.u8 (v.k + 1))]] = bcK [u8k (v.k + 1)] := cell_u8k _
    have round : (rd_key_Encode_37_3 [.l [[pI v.k, pI v.n, pS (bs v.s)]], .i 1, .i 0, .l []]).val = some (.next [.l [[pI v.k, pI v.n, pS (bs v.s)]], .i 1, .i 1, .l (bcK (encV v))]) := by
      have e01 : ((0 : Int) < 1) = True := by simp
      have w01 : w64 (0 + 1) = 1 := by decide
      have r01 : inR 0 1 = true := by decide
      simp only [rd_key_Encode_37_3, rt_test, rt_next, eE, eL, cI_p, cI_s, cS_s, cS_p, h0, hm, ok_some', out_some, uB_0, beq_self_eq_true, Bool.not_true, Bool.false_eq_true, if_true, if_false, e01, r01, w01, decide_true, hk, List.length_nil, List.nil_append, c0]
      rcases mayV_cases hm with ⟨a1, a2, a3⟩ | ⟨a1, a2, a3⟩ | ⟨a1, a3⟩ | ⟨a1, a2, a3⟩
      · simp [a1, encV, bcK]
      · have c1 := cell_u8k v.n
        simp only [a1, show ((1 : Int) == 1) = true from rfl, if_true]
        rw [c1, ← bcK_append]
        simp [a1, encV, bcK]
      · have hl := num_loop v.n (bcK [u8k (v.k + 1)]) (by simp [bcK])
        rw [a1] at hl
        simp only [a1, show ((2 : Int) == 1) = false from rfl, show ((2 : Int) == 2) = true from rfl, Bool.false_eq_true, if_false, if_true, N64k_eq]
        rw [hl]
        simp [a1, encV, bcK]
      · have hl := text_loopK v.s (by omega) (bcK [u8k (v.k + 1)]) (by simp [bcK]) v.k v.n
        rw [a1] at hl
        simp only [a1, show ((3 : Int) == 1) = false from rfl, show ((3 : Int) == 2) = false from rfl, show ((3 : Int) == 3) = true from rfl, Bool.false_eq_true, if_false, if_true, bs_size]
        rw [hl]
        have el : (bcK [u8k (3 + 1)] ++ bcK (escK v.s)).length + 2 ≤ 140737488355328 := by
          have := escK_length v.s
          rw [List.length_append, bcK_length, bcK_length]; simp; omega
        simp only [ok_some', out_some, beq_self_eq_true, if_true, uL_0, Nat.mul_one, el, decide_true, a1, encV, show ¬ ((3 : Int) = 1) by decide, show ¬ ((3 : Int) = 2) by decide, if_false]
        simp [bcK]
    have hloop : lres rd_key_Encode_37_3 [.l [[pI v.k, pI v.n, pS (bs v.s)]], .i 1, .i 0, .l []] = some (1, [.l (bcK (encV v))]) := by
      rw [lres_next round]
      exact lres_stop (by simp [rd_key_Encode_37_3])
    simp only [m_key_Encode, eL, hloop, ok_some', out_some, res_test, res_stop, uL_0, show ((1 : Nat) == 0) = false from rfl, show ((0 : Nat) == 1) = false from rfl, Bool.false_eq_true, if_false, beq_self_eq_true, if_true, hm, strOf_bcK]
  · have hm' : mayV v = false := by simpa using hm
    have hloop : lres rd_key_Encode_37_3 [.l [[pI v.k, pI v.n, pS (bs v.s)]], .i 1, .i 0, .l []] = some (0, [.s (bs [])]) :=
      lres_stop (by
        have r01 : inR 0 1 = true := by decide
        simp only [rd_key_Encode_37_3, rt_test, rt_stop, eE, cI_p, cI_s, cS_s, cS_p, h0, hm', ok_some', out_some, uB_0, beq_self_eq_true, Bool.not_false, if_true, r01, show decide ((0 : Int) < 1) = true from rfl]
        rfl)
    simp only [m_key_Encode, eL, hloop, ok_some', out_some, res_test, res_stop, uS_0, beq_self_eq_true, if_true, hm', Bool.false_eq_true, if_false]

end Go.Proofs.Ytikmahlogjcieaa

set_option linter.unusedVariables false
set_option linter.unusedSimpArgs false
namespace Go.Proofs.Ytikmahlogjcieaa
open Go Go.Pu

theorem beq_bytes (a b : ByteArray) : (a == b) = decide (a = b) := by
  by_cases h : a = b
  · rw [(MapKept.bytes_beq a b).2 h]; simp [h]
  · rw [bytes_ne h]; simp [h]

theorem at_put (x : PV) (s s' : ByteArray) : ∀ es : List (List PV), atM (putM es s x) s' = if s' = s then x else atM es s'
  | [] => by
    simp only [putM, atM, beq_bytes]
    have : keyM [PV.str s, x] = s := rfl
    rw [this]
    by_cases h : s' = s
    · simp [h]
    · simp [h, Ne.symm h]
  | e :: es => by
    have ih := at_put x s s' es
    simp only [putM, beq_bytes]
    by_cases h : keyM e = s
    · have e1 : keyM [PV.str s, x] = s := rfl
      simp only [h, decide_true, if_true, atM, beq_bytes, e1]
      by_cases h2 : s' = s
      · simp [h2]
      · simp [h2, Ne.symm h2]
    · simp only [h, decide_false, Bool.false_eq_true, if_false, atM, beq_bytes, ih]
      by_cases h2 : s' = s
      · subst h2; simp [h]
      · simp only [h2, if_false]

theorem lk_put (t : TypeId) (rows es : List (List PV)) (s s' : ByteArray) : lkM (putM es s (.lst t rows)) s' = if s' = s then rows else lkM es s' := by
  unfold lkM
  rw [at_put]
  split <;> rfl

theorem bs_inj {a b : List UInt8} (h : bs a = bs b) : a = b := by
  have := congrArg (fun x : ByteArray => x.data.toList) h
  simpa using this

theorem at_res (r : List Val) (n : Int) : (m_query_at [.l (re r), .i n]).res = some (0, [.i (atV r n).k, .i (atV r n).n, .s (bs (atV r n).s)]) := by
  unfold atV
  by_cases h1 : n < 0
  · have : ¬ (0 ≤ n ∧ n < (r.length : Int)) := by omega
    simp [m_query_at, h1, this, nul, bs_nil]
  · by_cases h2 : n ≥ (r.length : Int)
    · have : ¬ (0 ≤ n ∧ n < (r.length : Int)) := by omega
      simp [m_query_at, h1, h2, this, nul, bs_nil]
    · have h3 : 0 ≤ n ∧ n < (r.length : Int) := by omega
      have hk : n.toNat < r.length := by omega
      have e1 : el (re r) n = Val.e r[n.toNat] := by
        unfold el re
        rw [List.getD, List.getElem?_map, List.getElem?_eq_getElem hk]
        rfl
      have e2 : r.getD n.toNat nul = r[n.toNat] := by rw [List.getD, List.getElem?_eq_getElem hk]; rfl
      have e3 : inR n (r.length : Int) = true := inR_iff.2 h3
      rw [if_pos h3, e2]
      simp [m_query_at, h1, h2, e3, e1, Val.e]

theorem nul_may : mayV nul = true := by decide

theorem atV_may {r : List Val} (h : mayR r = true) (n : Int) : mayV (atV r n) = true := by
  unfold mayR at h
  simp only [Bool.and_eq_true] at h
  unfold atV
  split
  · rename_i hn
    have hk : n.toNat < r.length := by omega
    have e2 : r.getD n.toNat nul = r[n.toNat] := by rw [List.getD, List.getElem?_eq_getElem hk]; rfl
    rw [e2]
    exact List.all_eq_true.1 h.2 _ (List.getElem_mem hk)
  · exact nul_may

theorem atV_ok {r : List Val} (h : okR r) (n : Int) : (atV r n).ok := by
  unfold atV
  split
  · rename_i hn
    have hk : n.toNat < r.length := by omega
    have e2 : r.getD n.toNat nul = r[n.toNat] := by rw [List.getD, List.getElem?_eq_getElem hk]; rfl
    rw [e2]
    exact h.2 _ (List.getElem_mem hk)
  · exact nul_ok

/-- has a row this value's bytes in a column, and is it not null? -/
def hasK (j : Int) (k : List UInt8) (c : Cnt) : Bool := decide ((atV c.row j).k ≠ 0 ∧ encV (atV c.row j) = k)

theorem hasK_meet {i j : Int} {a b : Cnt} (ha : mayR a.row = true) (hb : mayR b.row = true) (oa : okR a.row) (ob : okR b.row) (hk : (atV a.row i).k ≠ 0) : hasK j (encV (atV a.row i)) b = meetR i j a.row b.row := by
  unfold hasK meetR
  rw [decide_eq_decide]
  constructor
  · rintro ⟨h1, h2⟩
    exact ⟨(encV_inj (atV_may hb j) (atV_may ha i) (atV_ok ob j).2.1 (atV_ok oa i).2.1 h2).symm, hk⟩
  · rintro ⟨h1, h2⟩
    rw [← h1]; exact ⟨h2, rfl⟩

theorem index_loop (b : List Cnt) (hb : okB b) (hm : mayB b = true) (h0 : b.length ≤ 1000000) (j : Int) : ∀ m i (es : List (List PV)), b.length - i = m → i ≤ b.length → (∀ k, lkM es (bs k) = ((b.take i).filter (hasK j k)).map Cnt.e) →
    ∃ es', lres rd_query_index_35_3 [.i j, .l (b.map Cnt.e), .i (b.length : Nat), .i (i : Nat), .l es] = some (0, [.l es']) ∧ ∀ k, lkM es' (bs k) = (b.filter (hasK j k)).map Cnt.e := by
  intro m
  induction m with
  | zero =>
    intro i es hi hle he
    have : i = b.length := by omega
    subst this
    refine ⟨es, lres_stop (by simp [rd_query_index_35_3]), fun k => ?_⟩
    rw [he, List.take_length]
  | succ m ih =>
    intro i es hi hle he
    have h : i < b.length := by omega
    have hc := hb.2 b[i] (List.getElem_mem h)
    have hmr := mayB_row hm (List.getElem_mem h)
    have h1 := at_res b[i].row j
    have hmv := atV_may hmr j
    have ht : b.take (i + 1) = b.take i ++ [b[i]] := by rw [List.take_add_one, List.getElem?_eq_getElem h]; rfl
    have row0 : cL b[i].e 0 = re b[i].row := rfl
    have row1 : cI b[i].e 1 = b[i].n := rfl
    by_cases hk : (atV b[i].row j).k = 0
    · obtain ⟨es', e1, e2⟩ := ih (i + 1) es (by omega) (by omega) fun k => by
        rw [he, ht, List.filter_append]
        have : hasK j k b[i] = false := by simp [hasK, hk]
        simp [List.filter_cons, this]
      refine ⟨es', ?_, e2⟩
      rw [← e1]
      have hb0 : ((0 : Int) != 0) = false := rfl
      refine lres_next ?_
      simp only [rd_query_index_35_3, rt_test, rt_next, el_map _ _ h, ln_map, inR_cast, Int.ofNat_lt, h, decide_true, if_true, row0, h1, ok_some', out_some, uI_0, hk, hb0, beq_self_eq_true, Bool.false_eq_true, if_false, w64_succ (i := i) (by omega)]
    · have h2 := Encode1_res (atV b[i].row j) (atV_ok hc.1 j)
      rw [hmv, if_pos rfl] at h2
      have hlen : ((lkM es (bs (encV (atV b[i].row j)))).length + 1) * 32 ≤ 140737488355328 := by
        rw [he, List.length_map]
        have h3 := List.length_filter_le (hasK j (encV (atV b[i].row j))) (b.take i)
        rw [List.length_take] at h3
        omega
      obtain ⟨es', e1, e2⟩ := ih (i + 1) (putM es (bs (encV (atV b[i].row j))) (PV.lst 46 (lkM es (bs (encV (atV b[i].row j))) ++ [[PV.lst 48 (re b[i].row), pI b[i].n]]))) (by omega) (by omega) fun k => by
        rw [lk_put, he, he, ht, List.filter_append]
        by_cases e : bs k = bs (encV (atV b[i].row j))
        · have e' := bs_inj e
          have : hasK j k b[i] = true := by simp [hasK, hk, e']
          rw [if_pos e, ← e']
          simp [List.filter_cons, this, Cnt.e]
        · have : hasK j k b[i] = false := by
            simp only [hasK, decide_eq_false_iff_not, not_and]
            exact fun _ h4 => e (by rw [h4])
          rw [if_neg e]
          simp [List.filter_cons, this]
      refine ⟨es', ?_, e2⟩
      rw [← e1]
      have hb0 : ((atV b[i].row j).k != 0) = true := by simpa using hk
      refine lres_next ?_
      simp only [rd_query_index_35_3, rt_test, rt_next, el_map _ _ h, ln_map, inR_cast, Int.ofNat_lt, h, decide_true, if_true, row0, row1, h1, h2, ok_some', out_some, uI_0, uI_s, uS_s, uS_0, hb0, beq_self_eq_true, hlen, w64_succ (i := i) (by omega)]

theorem index_res (b : List Cnt) (hb : okB b) (hm : mayB b = true) (h0 : b.length ≤ 1000000) (j : Int) : ∃ es, (m_query_index [.l (b.map Cnt.e), .i j]).res = some (0, [.l es]) ∧ ∀ k, lkM es (bs k) = (b.filter (hasK j k)).map Cnt.e := by
  obtain ⟨es, e1, e2⟩ := index_loop b hb hm h0 j b.length 0 [] (by omega) (by omega) fun k => rfl
  refine ⟨es, ?_, e2⟩
  have e1 : lres rd_query_index_35_3 [.i j, .l (b.map Cnt.e), .i (b.length : Nat), .i 0, .l []] = some (0, [.l es]) := e1
  simp only [m_query_index, ln_map, e1, ok_some', out_some, res_test, res_stop, uL_0, beq_self_eq_true, if_true]

/-! products -/

theorem pairOk_iff {c : Cnt} : pairOk c = true ↔ c.row.length ≤ 40 ∧ fitsN c.n = true := by simp [pairOk]

section
variable (v0 v1 v2 : ByteArray) (i j : Int) (l5 l6 : List (List PV)) (b7 : Bool) (l8 : List (List PV))

/-- what the inner loop meets -/
theorem pair_loop (A : List (List PV)) (nA iA : Int) (es : List (List PV)) (a : Cnt) (ha : mayR a.row = true) (na : a.n.natAbs ≤ 1000000000) (C O : List Cnt) (hC : ∀ c ∈ C, mayR c.row = true ∧ c.n.natAbs ≤ 1000000000) (h0 : C.length ≤ 1000000) (hO : manyOk O = true) :
    lres rd_query_Product_14_13 [.l A, .i nA, .i iA, .l (C.map Cnt.e), .i (C.length : Nat), .i 0, .s v0, .s v1, .s v2, .i i, .i j, .l l5, .l l6, .b b7, .l l8, .l es, .l (O.map Cnt.e), .l (re a.row), .i a.n] =
      if manyOk (O ++ C.map (pairC a)) = true then some (1, [.l A, .i nA, .i iA, .s v0, .s v1, .s v2, .i i, .i j, .l l5, .l l6, .b b7, .l l8, .l es, .l ((O ++ C.map (pairC a)).map Cnt.e)]) else some (0, [.i 100]) := by
  have hO1 : O.length ≤ 10000 := by unfold manyOk at hO; simp only [Bool.and_eq_true, decide_eq_true_eq] at hO; exact hO.1
  have hO2 : O.all pairOk = true := by unfold manyOk at hO; simp only [Bool.and_eq_true, decide_eq_true_eq] at hO; exact hO.2
  have la : a.row.length ≤ 40 := by unfold mayR at ha; simp only [Bool.and_eq_true, decide_eq_true_eq] at ha; exact ha.1
  have h := loop_ix C.length (rd := rd_query_Product_14_13) (fun p => [.l A, .i nA, .i iA, .l (C.map Cnt.e), .i (C.length : Nat), .i (p : Nat), .s v0, .s v1, .s v2, .i i, .i j, .l l5, .l l6, .b b7, .l l8, .l es, .l ((O ++ (C.take p).map (pairC a)).map Cnt.e), .l (re a.row), .i a.n])
    (fun p => pairOk (pairC a (C.getD p ⟨[], 0⟩)) && decide (O.length + p < 10000)) 0 1 (fun _ => [.i 100]) [.l A, .i nA, .i iA, .s v0, .s v1, .s v2, .i i, .i j, .l l5, .l l6, .b b7, .l l8, .l es, .l ((O ++ C.map (pairC a)).map Cnt.e)]
    (by simp [rd_query_Product_14_13]) (by
    intro p hp hall
    have hc := hC C[p] (List.getElem_mem hp)
    have lc : C[p].row.length ≤ 40 := by have := hc.1; unfold mayR at this; simp only [Bool.and_eq_true, decide_eq_true_eq] at this; exact this.1
    have e0 : C.getD p ⟨[], 0⟩ = C[p] := by rw [List.getD, List.getElem?_eq_getElem hp]; rfl
    have hj := Join_res a.row C[p].row (by omega) (by omega)
    have row0 : cL C[p].e 0 = re C[p].row := rfl
    have row1 : cI C[p].e 1 = C[p].n := rfl
    have hw : w64 (a.n * C[p].n) = a.n * C[p].n := by
      have h1 : (a.n * C[p].n).natAbs ≤ 1000000000 * 1000000000 := by rw [Int.natAbs_mul]; exact Nat.mul_le_mul na hc.2
      exact w64_eq (by omega) (by omega)
    have hl : ((O ++ (C.take p).map (pairC a)).map Cnt.e).length = O.length + p := by
      simp only [List.length_map, List.length_append, List.length_take]; omega
    have hln : ln ((O ++ (C.take p).map (pairC a)).map Cnt.e) = ((O.length + p : Nat) : Int) := by unfold ln; rw [hl]
    have hroom : (((O ++ (C.take p).map (pairC a)).map Cnt.e).length + 1) * 32 ≤ 140737488355328 := by rw [hl]; omega
    have hrow : ln (re (a.row ++ C[p].row)) = ((a.row ++ C[p].row).length : Int) := ln_re _
    simp only [rd_query_Product_14_13, rt_test, rt_next, rt_stop, el_map _ _ hp, ln_map, inR_cast, Int.ofNat_lt, hp, decide_true, if_true, row0, row1, hj, ok_some', out_some, uL_0, beq_self_eq_true, hw, hln, hrow, hroom, e0]
    simp only [pairOk, pairC, fitsN]
    by_cases c1 : (a.row ++ C[p].row).length ≤ 40
    · have c1' : ¬ (((a.row ++ C[p].row).length : Nat) : Int) > 40 := by omega
      by_cases c2 : a.n * C[p].n > 1000000000
      · have : ¬ a.n * C[p].n ≤ 1000000000 := by omega
        simp only [c1, c1', c2, this, decide_true, decide_false, Bool.false_eq_true, if_false, if_true, Bool.and_false, Bool.false_and]
      · by_cases c3 : a.n * C[p].n < -1000000000
        · have : ¬ -1000000000 ≤ a.n * C[p].n := by omega
          simp only [c1, c1', c2, c3, this, decide_true, decide_false, Bool.false_eq_true, if_false, if_true, Bool.and_false, Bool.false_and]
        · have c4 : -1000000000 ≤ a.n * C[p].n := by omega
          have c5 : a.n * C[p].n ≤ 1000000000 := by omega
          by_cases c6 : O.length + p < 10000
          · have c6' : ¬ ((O.length + p : Nat) : Int) ≥ 10000 := by omega
            have ht : (O ++ (C.take (p + 1)).map (pairC a)).map Cnt.e = (O ++ (C.take p).map (pairC a)).map Cnt.e ++ [[PV.lst 48 (re (a.row ++ C[p].row)), pI (a.n * C[p].n)]] := by
              rw [take_one C hp]; simp only [List.map_append, List.append_assoc]; rfl
            have c1i : ¬ ((a.row ++ C[p].row).length : Int) > 40 := c1'
            simp only [c1, c1i, c2, c3, c4, c5, c6, c6', decide_true, decide_false, Bool.false_eq_true, if_false, if_true, Bool.and_self, ht, w64_succ (i := p) (by omega)]
          · have c6' : ((O.length + p : Nat) : Int) ≥ 10000 := by omega
            have c1i : ¬ ((a.row ++ C[p].row).length : Int) > 40 := c1'
            simp only [c1, c1i, c2, c3, c4, c5, c6, c6', decide_true, decide_false, Bool.false_eq_true, if_false, if_true, Bool.and_false]
    · have c1' : (((a.row ++ C[p].row).length : Nat) : Int) > 40 := by omega
      simp only [c1, c1', decide_true, decide_false, Bool.false_eq_true, if_false, if_true, Bool.and_false, Bool.false_and])
  simp only [List.take_zero, Int.natCast_zero, List.map_nil, List.append_nil] at h
  rcases h with ⟨h1, h2⟩ | ⟨p, hp, h1, _, h2⟩
  · have hm : manyOk (O ++ C.map (pairC a)) = true := by
      unfold manyOk
      rw [Bool.and_eq_true, decide_eq_true_eq, List.all_append, hO2, Bool.true_and, List.length_append, List.length_map]
      refine ⟨?_, ?_⟩
      · by_cases hz : C.length = 0
        · omega
        · have := h1 (C.length - 1) (by omega)
          simp only [Bool.and_eq_true, decide_eq_true_eq] at this
          omega
      · rw [List.all_eq_true]
        intro c hc
        obtain ⟨d, hd, rfl⟩ := List.mem_map.1 hc
        obtain ⟨q, hq, rfl⟩ := List.mem_iff_getElem.1 hd
        have := h1 q hq
        simp only [Bool.and_eq_true, decide_eq_true_eq] at this
        rw [List.getD, List.getElem?_eq_getElem hq] at this
        exact this.1
    rw [if_pos hm, h2]
  · have hm : ¬ manyOk (O ++ C.map (pairC a)) = true := by
      intro hm
      unfold manyOk at hm
      rw [Bool.and_eq_true, decide_eq_true_eq, List.all_append, Bool.and_eq_true, List.length_append, List.length_map] at hm
      have h3 : pairOk (pairC a C[p]) = true := List.all_eq_true.1 hm.2.2 _ (List.mem_map.2 ⟨_, List.getElem_mem hp, rfl⟩)
      have e0 : C.getD p ⟨[], 0⟩ = C[p] := by rw [List.getD, List.getElem?_eq_getElem hp]; rfl
      rw [e0, h3, Bool.true_and, decide_eq_false_iff_not] at h1
      omega
    rw [if_neg hm, h2]

theorem manyOk_app {a b : List Cnt} (h : manyOk (a ++ b) = true) : manyOk a = true := by
  unfold manyOk at *
  rw [Bool.and_eq_true, decide_eq_true_eq, List.all_append, Bool.and_eq_true, List.length_append] at h
  rw [Bool.and_eq_true, decide_eq_true_eq]
  exact ⟨by omega, h.2.1⟩

theorem pairs_take (A B : List Cnt) {p : Nat} (h : p < A.length) : pairsL i j (A.take (p + 1)) B = pairsL i j (A.take p) B ++ pairs1 i j A[p] B := by
  rw [take_one A h]; unfold pairsL; rw [List.flatMap_append]; simp

theorem prod_loop (A B : List Cnt) (hA : okB A) (hB : okB B) (mA : mayB A = true) (mB : mayB B = true) (h0 : A.length ≤ 1000000) (k0 : B.length ≤ 1000000) (es : List (List PV)) (hes : ∀ k, lkM es (bs k) = (B.filter (hasK j k)).map Cnt.e) :
    lres rd_query_Product_14_8 [.l (A.map Cnt.e), .i (A.length : Nat), .i 0, .s v0, .s v1, .s v2, .i i, .i j, .l l5, .l l6, .b b7, .l l8, .l es, .l []] =
      if manyOk (pairsL i j A B) = true then some (1, [.l ((pairsL i j A B).map Cnt.e)]) else some (0, [.i 100]) := by
  have pre : ∀ p, p ≤ A.length → (∀ q, q < p → manyOk (pairsL i j (A.take (q + 1)) B) = true) → manyOk (pairsL i j (A.take p) B) = true := by
    intro p hp hq
    cases p with
    | zero => rfl
    | succ p => exact hq p (by omega)
  have h := loop_ix A.length (rd := rd_query_Product_14_8) (fun p => [.l (A.map Cnt.e), .i (A.length : Nat), .i (p : Nat), .s v0, .s v1, .s v2, .i i, .i j, .l l5, .l l6, .b b7, .l l8, .l es, .l ((pairsL i j (A.take p) B).map Cnt.e)])
    (fun p => manyOk (pairsL i j (A.take (p + 1)) B)) 0 1 (fun _ => [.i 100]) [.l ((pairsL i j A B).map Cnt.e)]
    (by simp [rd_query_Product_14_8]) (by
    intro p hp hall
    have hO := pre p (by omega) hall
    have hc := hA.2 A[p] (List.getElem_mem hp)
    have hmr := mayB_row mA (List.getElem_mem hp)
    have hn := mayB_n mA (List.getElem_mem hp)
    have h1 := at_res A[p].row i
    have row0 : cL A[p].e 0 = re A[p].row := rfl
    have row1 : cI A[p].e 1 = A[p].n := rfl
    have ht := pairs_take i j A B hp
    by_cases hk : (atV A[p].row i).k = 0
    · have hz : pairs1 i j A[p] B = [] := by
        unfold pairs1
        have : B.filter (fun b => meetR i j A[p].row b.row) = [] := by
          rw [List.filter_eq_nil_iff]
          intro b _
          simp [meetR, hk]
        rw [this]; rfl
      rw [hz, List.append_nil] at ht
      have hb0 : ((0 : Int) == 0) = true := rfl
      simp only [rd_query_Product_14_8, rt_test, rt_next, rt_stop, el_map _ _ hp, ln_map, inR_cast, Int.ofNat_lt, hp, decide_true, if_true, row0, h1, ok_some', out_some, uI_0, hk, hb0, beq_self_eq_true, ht, hO, w64_succ (i := p) (by omega)]
    · have h2 := Encode1_res (atV A[p].row i) (atV_ok hc.1 i)
      rw [atV_may hmr i, if_pos rfl] at h2
      have hb0 : ((atV A[p].row i).k == 0) = false := by simpa using hk
      have hl := pair_loop v0 v1 v2 i j l5 l6 b7 l8 (A.map Cnt.e) (A.length : Nat) (p : Nat) es A[p] hmr hn (B.filter (hasK j (encV (atV A[p].row i)))) (pairsL i j (A.take p) B)
        (fun c hc => ⟨mayB_row mB (List.mem_filter.1 hc).1, mayB_n mB (List.mem_filter.1 hc).1⟩) (Nat.le_trans (List.length_filter_le _ _) k0) hO
      have hf : B.filter (hasK j (encV (atV A[p].row i))) = B.filter fun b => meetR i j A[p].row b.row :=
        List.filter_congr fun b hb => hasK_meet hmr (mayB_row mB hb) hc.1 (hB.2 b hb).1 hk
      have hp1 : (B.filter (hasK j (encV (atV A[p].row i)))).map (pairC A[p]) = pairs1 i j A[p] B := by rw [hf]; rfl
      rw [hp1, ← ht] at hl
      have hln : ln ((B.filter (hasK j (encV (atV A[p].row i)))).map Cnt.e) = ((B.filter (hasK j (encV (atV A[p].row i)))).length : Int) := ln_map _ _
      simp only [rd_query_Product_14_8, rt_test, rt_next, rt_stop, el_map _ _ hp, ln_map, inR_cast, Int.ofNat_lt, hp, decide_true, if_true, row0, row1, h1, h2, ok_some', out_some, uI_0, uI_s, uS_s, uS_0, hb0, beq_self_eq_true, Bool.false_eq_true, if_false, hes, hln, hl]
      by_cases hmo : manyOk (pairsL i j (A.take (p + 1)) B) = true
      · simp only [hmo, if_true, ok_some', out_some, show ((0 : Nat) == 1) = false from rfl, Bool.false_eq_true, if_false, beq_self_eq_true, uI_0, uI_s, uS_s, uS_0, uL_s, uL_0, uB_s, uB_0, rt_test, rt_next, w64_succ (i := p) (by omega)]
      · simp only [hmo, if_false, ok_some', out_some, beq_self_eq_true, if_true, uI_0, rt_test, rt_stop, Bool.false_eq_true])
  simp only [List.take_zero, Int.natCast_zero] at h
  rw [show pairsL i j [] B = [] from rfl, List.map_nil] at h
  rcases h with ⟨h1, h2⟩ | ⟨p, hp, h1, _, h2⟩
  · have := pre A.length (Nat.le_refl _) h1
    rw [List.take_length] at this
    rw [if_pos this, h2]
  · have hm : ¬ manyOk (pairsL i j A B) = true := by
      intro hm
      have e : pairsL i j A B = pairsL i j (A.take (p + 1)) B ++ pairsL i j (A.drop (p + 1)) B := by
        unfold pairsL
        rw [← List.flatMap_append, List.take_append_drop]
      rw [e] at hm
      rw [manyOk_app hm] at h1
      cases h1
    rw [if_neg hm, h2]

theorem pairs_okB {A B : List Cnt} (hA : okB A) (hB : okB B) (mA : mayB A = true) (mB : mayB B = true) (hm : manyOk (pairsL i j A B) = true) : okB (pairsL i j A B) ∧ absN (pairsL i j A B) ≤ 4611686018427387904 := by
  unfold manyOk at hm
  simp only [Bool.and_eq_true, decide_eq_true_eq] at hm
  refine ⟨⟨by omega, fun c hc => ?_⟩, ?_⟩
  · have hf := List.all_eq_true.1 hm.2 c hc
    obtain ⟨h1, h2⟩ := pairOk_iff.1 hf
    have h3 := fitsN_iff.1 h2
    obtain ⟨a, ha, b, hb, _, rfl⟩ := pairs_mem hc
    refine ⟨⟨by omega, fun v hv => ?_⟩, ⟨by omega, by omega⟩⟩
    rcases List.mem_append.1 hv with hv | hv
    · exact (hA.2 a ha).1.2 v hv
    · exact (hB.2 b hb).1.2 v hv
  · have := absN_le (b := pairsL i j A B) (m := 1000000000) fun c hc => by
      have h2 := fitsN_iff.1 (pairOk_iff.1 (List.all_eq_true.1 hm.2 c hc)).2
      omega
    have h4 : (pairsL i j A B).length * 1000000000 ≤ 10000 * 1000000000 := Nat.mul_le_mul_right _ hm.1
    omega

end
end Go.Proofs.Ytikmahlogjcieaa

set_option linter.unusedVariables false
set_option linter.unusedSimpArgs false
namespace Go.Proofs.Ytikmahlogjcieaa
open Go Go.Pu

theorem sum_may {l : List Cnt} (hr : ∀ c ∈ l, mayR c.row = true) (hn : absN l ≤ 1000000000) : mayB (sumB l) = true :=
  (sumB_may hr).2 fun c hc => by
    have h1 := sumB_n hc
    have h2 := cnt_abs l c.row
    exact fitsN_iff.2 (by omega)

theorem app_row {A B : List Cnt} (hA : mayB A = true) (hB : mayB B = true) : ∀ c ∈ A ++ B, mayR c.row = true := fun c hc => by
  rcases List.mem_append.1 hc with hc | hc
  · exact mayB_row hA hc
  · exact mayB_row hB hc

theorem both_may {A B : List Cnt} (hA : mayB A = true) (hB : mayB B = true) (h : absN A + absN B ≤ 1000000000) : mayB (sumB (A ++ B)) = true :=
  sum_may (app_row hA hB) (by rw [absN_app]; exact h)

/-- bags together are found by counts -/
theorem both_eq {P Q S : List Cnt} (hS : canon S) (h : ∀ r, cnt S r = cnt P r + cnt Q r) : S = sumB (P ++ Q) := sumB_eq hS fun r => by rw [h, cnt_app]

theorem mayC {b : List Cnt} (h : mayB b = true) : canon b := mayB_canon h

/-! picks -/

def pickC (cs : List Int) (c : Cnt) : List Cnt := if pickOk c.row cs = true ∧ (pickR c.row cs).length ≤ 40 then [⟨pickR c.row cs, c.n⟩] else []
def pickL (cs : List Int) (B : List Cnt) : List Cnt := B.flatMap (pickC cs)
theorem pick_absN (cs : List Int) (B : List Cnt) : absN (pickL cs B) ≤ absN B := by
  induction B with
  | nil => exact Nat.le_refl _
  | cons c B ih =>
    have e : pickL cs (c :: B) = pickC cs c ++ pickL cs B := rfl
    rw [e, absN_app]
    have h1 : absN (pickC cs c) ≤ c.n.natAbs := by
      unfold pickC
      split
      · simp [absN]
      · simp [absN]
    have h2 : absN (c :: B) = c.n.natAbs + absN B := rfl
    omega

theorem pick_len (cs : List Int) (B : List Cnt) : (pickL cs B).length ≤ B.length := by
  induction B with
  | nil => exact Nat.le_refl _
  | cons c B ih =>
    have e : pickL cs (c :: B) = pickC cs c ++ pickL cs B := rfl
    rw [e, List.length_append, List.length_cons]
    have h1 : (pickC cs c).length ≤ 1 := by unfold pickC; split <;> simp
    omega

theorem pick_row {cs : List Int} {B : List Cnt} (h : mayB B = true) : ∀ c ∈ pickL cs B, mayR c.row = true := by
  intro c hc
  obtain ⟨b, hb, hc⟩ := List.mem_flatMap.1 hc
  unfold pickC at hc
  split at hc
  · rename_i hk
    rw [List.mem_singleton] at hc
    subst hc
    have hall := mayB_row h hb
    unfold mayR at hall ⊢
    simp only [Bool.and_eq_true, decide_eq_true_eq, List.all_eq_true] at hall ⊢
    refine ⟨hk.2, ?_⟩
    intro v hv
    obtain ⟨k, hkm, rfl⟩ := List.mem_map.1 hv
    have hk2 := hk.1
    unfold pickOk at hk2
    have := of_decide_eq_true (List.all_eq_true.1 hk2 k hkm)
    have hlt : k.toNat < b.row.length := by omega
    have e : b.row.getD k.toNat nul = b.row[k.toNat] := by rw [List.getD, List.getElem?_eq_getElem hlt]; rfl
    rw [e]
    exact hall.2 _ (List.getElem_mem hlt)
  · cases hc

def pickV (cs : List Int) (B : List Cnt) : List Cnt := if mayB B = true ∧ mayB (sumB (pickL cs B)) = true then sumB (pickL cs B) else []

theorem pickV_eq {cs : List Int} {B : List Cnt} (h : mayB B = true) (hn : absN B ≤ 1000000000) : pickV cs B = sumB (pickL cs B) := by
  unfold pickV
  rw [if_pos ⟨h, sum_may (pick_row h) (Nat.le_trans (pick_absN cs B) hn)⟩]

/-! changes -/

def deltaV (w : List UInt8) (i j : Int) (A dA B dB : List Cnt) : List Cnt × Int :=
  if mayB A = true ∧ mayB dA = true ∧ mayB B = true ∧ mayB dB = true then
    if w = [] then (dA, 0) else
    if (prodV w i j dA B).2 ≠ 0 ∨ (prodV w i j A dB).2 ≠ 0 ∨ (prodV w i j dA dB).2 ≠ 0 then ([], 100) else
    let s := sumB ((prodV w i j dA B).1 ++ (prodV w i j A dB).1 ++ (prodV w i j dA dB).1)
    if mayB s = true then (s, 0) else ([], 100)
  else ([], 1)

/-- how often a row is there in what changes -/
theorem deltaV_cnt {w : List UInt8} {i j : Int} {A dA B dB : List Cnt} (hw : w ≠ []) (h : (deltaV w i j A dA B dB).2 = 0) (r : List Val) :
    cnt (deltaV w i j A dA B dB).1 r = cnt (pairsL i j dA B) r + cnt (pairsL i j A dB) r + cnt (pairsL i j dA dB) r ∧ mayB (deltaV w i j A dA B dB).1 = true := by
  unfold deltaV at h ⊢
  by_cases hm : mayB A = true ∧ mayB dA = true ∧ mayB B = true ∧ mayB dB = true
  · rw [if_pos hm, if_neg hw] at h ⊢
    by_cases he : (prodV w i j dA B).2 ≠ 0 ∨ (prodV w i j A dB).2 ≠ 0 ∨ (prodV w i j dA dB).2 ≠ 0
    · rw [if_pos he] at h; cases h
    · rw [if_neg he] at h ⊢
      simp only at h ⊢
      by_cases hs : mayB (sumB ((prodV w i j dA B).1 ++ (prodV w i j A dB).1 ++ (prodV w i j dA dB).1)) = true
      · rw [if_pos hs]
        have h1 : (prodV w i j dA B).2 = 0 := by simpa using fun x => he (.inl x)
        have h2 : (prodV w i j A dB).2 = 0 := by simpa using fun x => he (.inr (.inl x))
        have h3 : (prodV w i j dA dB).2 = 0 := by simpa using fun x => he (.inr (.inr x))
        refine ⟨?_, hs⟩
        rw [sumB_cnt, cnt_app, cnt_app, prodV_ok hw hm.2.1 hm.2.2.1 h1, prodV_ok hw hm.1 hm.2.2.2 h2, prodV_ok hw hm.2.1 hm.2.2.2 h3, sumB_cnt, sumB_cnt, sumB_cnt]
      · rw [if_neg hs] at h; cases h
  · rw [if_neg hm] at h; cases h

theorem deltaV_may (w : List UInt8) (i j : Int) (A dA B dB : List Cnt) : mayB (deltaV w i j A dA B dB).1 = true := by
  unfold deltaV
  split
  · rename_i h
    split
    · exact h.2.1
    · split
      · exact mayB_nil
      · simp only
        split
        · rename_i hs; exact hs
        · exact mayB_nil
  · exact mayB_nil

/-- joined rows of what was come to -/
def thenW (f : List Val → Bool × Int) (p : List Cnt × Int) : List Cnt × Int := if p.2 ≠ 0 then ([], p.2) else whereV f p.1

theorem thenW_ok {f : List Val → Bool × Int} {p : List Cnt × Int} (hm : mayB p.1 = true) (h : (thenW f p).2 = 0) : p.2 = 0 ∧ (thenW f p).1 = keepB (fun r => (f r).1) p.1 ∧ ∀ c ∈ p.1, (f c.row).2 = 0 := by
  unfold thenW at h ⊢
  split
  · rename_i h1; rw [if_pos h1] at h; exact absurd h h1
  · rename_i h1
    rw [if_neg h1] at h
    unfold whereV at h ⊢
    rw [if_pos hm] at h ⊢
    exact ⟨by simpa using h1, whereF_eq h, whereF_ok.1 h⟩

theorem thenW_err {f : List Val → Bool × Int} {p : List Cnt × Int} (h : (thenW f p).2 ≠ 0) : (thenW f p).1 = [] := by
  unfold thenW at h ⊢
  split
  · rfl
  · rename_i h1
    rw [if_neg h1] at h
    unfold whereV at h ⊢
    split
    · rename_i hm; rw [if_pos hm] at h; exact (whereF_nil h).1
    · rfl

theorem thenW_may {f : List Val → Bool × Int} {p : List Cnt × Int} (hm : mayB p.1 = true) : mayB (thenW f p).1 = true := by
  by_cases h : (thenW f p).2 = 0
  · rw [(thenW_ok hm h).2.1]; exact keep_may hm
  · rw [thenW_err h]; exact mayB_nil

section
variable {w : List UInt8} {i j : Int} {f : List Val → Bool × Int} {A dA B dB : List Cnt}

end

end Go.Proofs.Ytikmahlogjcieaa

set_option linter.unusedVariables false
set_option linter.unusedSimpArgs false
namespace Go.Proofs.Ytikmahlogjcieaa
open Go Go.Pu

/-- a view, as plain data -/
structure Vw where
  n0 : List UInt8
  n1 : List UInt8
  w : List UInt8
  i : Int
  j : Int
  wh : List Nd
  pk : List Int
  g : Bool
  ag : List (List PV)

def Vw.ok (v : Vw) : Prop := (∀ d ∈ v.wh, d.ok) ∧ v.wh.length ≤ 140737488355328 ∧ v.pk.length ≤ 140737488355328

theorem ok01 : ((0 : Nat) == 1) = false := rfl
theorem plus_one {A : List Cnt} (h : mayB A = true) : plusB [A] = A := by
  rw [plusB_may_iff (by simpa using h)]
  rw [show [A].flatten = A by simp, sumB_self (mayC h), if_pos h]

theorem prodV_okB {w : List UInt8} {i j : Int} {A B : List Cnt} (hA : okB A) (hB : okB B) : okB (prodV w i j A B).1 := by
  unfold prodV
  split
  · rename_i hm
    split
    · exact hA
    · split
      · rename_i h
        obtain ⟨h1, h2⟩ := pairs_okB i j hA hB hm.1 hm.2 h.1
        exact sumB_okB h1 h2
      · exact ⟨by simp, fun c hc => by cases hc⟩
  · exact ⟨by simp, fun c hc => by cases hc⟩

theorem prodV_len {w : List UInt8} {i j : Int} {A B : List Cnt} : (prodV w i j A B).1.length ≤ A.length + 10000 := by
  unfold prodV
  split
  · split
    · simp only; omega
    · split
      · rename_i h
        have h1 := sumB_len (pairsL i j A B)
        have h2 := h.1
        unfold manyOk at h2
        simp only [Bool.and_eq_true, decide_eq_true_eq] at h2
        simp only
        omega
      · simp
  · simp

theorem Product_res (n0 n1 w : List UInt8) (i j : Int) (l5 l6 : List (List PV)) (b7 : Bool) (l8 : List (List PV)) (A B : List Cnt) (hA : okB A) (hB : okB B) (h0 : A.length ≤ 1000000) (k0 : B.length ≤ 1000000) :
    (m_query_Product [.s (bs n0), .s (bs n1), .s (bs w), .i i, .i j, .l l5, .l l6, .b b7, .l l8, .l (A.map Cnt.e), .l (B.map Cnt.e)]).res = some (0, [.i (prodV w i j A B).2, .l ((prodV w i j A B).1.map Cnt.e)]) := by
  have h1 := bag_May_res A hA
  have h2 := bag_May_res B hB
  by_cases mA : mayB A = true
  · by_cases mB : mayB B = true
    · by_cases hw : w = []
      · have h3 := bag_Plus_res [A] (by simp) (by simpa using h0) (by simpa using hA)
        rw [plus_one mA] at h3
        have h4 : [A].map beE = [[PV.lst 46 (A.map Cnt.e)]] := rfl
        rw [h4] at h3
        simp only [m_query_Product, h1, h2, mA, mB, ok_some', out_some, res_test, res_stop, uB_0, Bool.not_true, Bool.false_eq_true, if_false, beq_self_eq_true, if_true, bs_toList, hw, h3, uL_0, prodV, and_self]
      · obtain ⟨es, h3, h4⟩ := index_res B hB mB k0 j
        have h5 := prod_loop (bs n0) (bs n1) (bs w) i j l5 l6 b7 l8 A B hA hB mA mB h0 k0 es h4
        have hw' : (w == []) = false := by simpa using hw
        by_cases hm : manyOk (pairsL i j A B) = true
        · rw [if_pos hm] at h5
          obtain ⟨p1, p2⟩ := pairs_okB i j hA hB mA mB hm
          have h6 := Sum_res _ p1 p2
          have h7 := bag_May_res _ (sumB_okB p1 p2)
          simp only [m_query_Product, h1, h2, mA, mB, ok_some', out_some, res_test, res_stop, uB_0, Bool.not_true, Bool.false_eq_true, if_false, beq_self_eq_true, if_true, bs_toList, hw', h3, uL_0, ln_map, h5, ok01, h6, h7, prodV, and_self, hw, hm, true_and]
          by_cases hs : mayB (sumB (pairsL i j A B)) = true
          · simp [hs]
          · simp [hs]
        · rw [if_neg hm] at h5
          simp only [m_query_Product, h1, h2, mA, mB, ok_some', out_some, res_test, res_stop, uB_0, Bool.not_true, Bool.false_eq_true, if_false, beq_self_eq_true, if_true, bs_toList, hw', h3, uL_0, uI_0, ln_map, h5, prodV, and_self, hw, hm, false_and]
          rfl
    · have mB' : mayB B = false := by simpa using mB
      simp only [m_query_Product, h1, h2, mA, mB', ok_some', out_some, res_test, res_stop, uB_0, Bool.not_true, Bool.not_false, Bool.false_eq_true, if_false, beq_self_eq_true, if_true, prodV, and_false]
      rfl
  · have mA' : mayB A = false := by simpa using mA
    simp only [m_query_Product, h1, mA', ok_some', out_some, res_test, res_stop, uB_0, Bool.not_false, Bool.false_eq_true, if_false, beq_self_eq_true, if_true, prodV, false_and]
    rfl

/-! what stays -/

theorem whereF_cons {f : List Val → Bool × Int} {c : Cnt} {B : List Cnt} (h : (f c.row).2 = 0) : whereF f (c :: B) = if (whereF f B).2 ≠ 0 then ([], (whereF f B).2) else ((if (f c.row).1 = true then [c] else []) ++ (whereF f B).1, 0) := by
  rw [whereF, if_neg fun hh => hh h]
theorem whereF_bad {f : List Val → Bool × Int} {c : Cnt} {B : List Cnt} (h : (f c.row).2 ≠ 0) : whereF f (c :: B) = ([], (f c.row).2) := by
  rw [whereF, if_pos h]

theorem where_loop (s0 s1 s2 : ByteArray) (i j : Int) (E : List Nd) (hE : ∀ d ∈ E, d.ok) (l9 : List (List PV)) (b10 : Bool) (l11 : List (List PV)) (B : List Cnt) (hB : okB B) (h0 : B.length ≤ 1000000) : ∀ m p (O : List Cnt), B.length - p = m → p ≤ B.length → O.length ≤ p →
    lres rd_query_Where_16_5 [.l (B.map Cnt.e), .i (B.length : Nat), .i (p : Nat), .s s0, .s s1, .s s2, .i i, .i j, .l (E.map Nd.e), .l l9, .b b10, .l l11, .l (O.map Cnt.e)] =
      if (whereF (trueV E) (B.drop p)).2 = 0 then some (1, [.l ((O ++ (whereF (trueV E) (B.drop p)).1).map Cnt.e)]) else some (0, [.i (whereF (trueV E) (B.drop p)).2]) := by
  intro m
  induction m with
  | zero =>
    intro p O hp hle hO
    have : p = B.length := by omega
    subst this
    rw [List.drop_length]
    simp only [whereF, if_true, List.append_nil]
    exact lres_stop (by simp [rd_query_Where_16_5])
  | succ m ih =>
    intro p O hp hle hO
    have h : p < B.length := by omega
    have hc := hB.2 B[p] (List.getElem_mem h)
    have h1 := True_res E hE B[p].row hc.1
    have row0 : cL B[p].e 0 = re B[p].row := rfl
    have row1 : cI B[p].e 1 = B[p].n := rfl
    rw [List.drop_eq_getElem_cons h]
    by_cases he : (trueV E B[p].row).2 = 0
    · have heb : ((0 : Int) != 0) = false := rfl
      by_cases ht : (trueV E B[p].row).1 = true
      · have r1 : (0 + (re B[p].row).length) * 32 ≤ 140737488355328 := by have := hc.1.1; rw [re_len]; omega
        have r2 : ((O.map Cnt.e).length + 1) * 32 ≤ 140737488355328 := by rw [List.length_map]; omega
        have hO2 : O.map Cnt.e ++ [[PV.lst 48 (re B[p].row), pI B[p].n]] = (O ++ [B[p]]).map Cnt.e := by rw [List.map_append]; rfl
        have hnext : (rd_query_Where_16_5 [.l (B.map Cnt.e), .i (B.length : Nat), .i (p : Nat), .s s0, .s s1, .s s2, .i i, .i j, .l (E.map Nd.e), .l l9, .b b10, .l l11, .l (O.map Cnt.e)]).val =
            some (.next [.l (B.map Cnt.e), .i (B.length : Nat), .i ((p + 1 : Nat) : Int), .s s0, .s s1, .s s2, .i i, .i j, .l (E.map Nd.e), .l l9, .b b10, .l l11, .l ((O ++ [B[p]]).map Cnt.e)]) := by
          simp only [rd_query_Where_16_5, rt_test, rt_next, rt_stop, el_map _ _ h, ln_map, inR_cast, Int.ofNat_lt, h, decide_true, if_true, row0, row1, h1, ok_some', out_some, uI_0, uI_s, uB_0, he, heb, ht, beq_self_eq_true, Bool.false_eq_true, if_false, r1, r2, hO2, w64_succ (i := p) (by omega)]
        rw [lres_next hnext, ih (p + 1) _ (by omega) (by omega) (by simp; omega)]
        rw [whereF_cons he, if_pos ht]
        by_cases hr : (whereF (trueV E) (B.drop (p + 1))).2 = 0
        · simp [hr]
        · simp [hr]
      · have ht' : (trueV E B[p].row).1 = false := by simpa using ht
        have hnext : (rd_query_Where_16_5 [.l (B.map Cnt.e), .i (B.length : Nat), .i (p : Nat), .s s0, .s s1, .s s2, .i i, .i j, .l (E.map Nd.e), .l l9, .b b10, .l l11, .l (O.map Cnt.e)]).val =
            some (.next [.l (B.map Cnt.e), .i (B.length : Nat), .i ((p + 1 : Nat) : Int), .s s0, .s s1, .s s2, .i i, .i j, .l (E.map Nd.e), .l l9, .b b10, .l l11, .l (O.map Cnt.e)]) := by
          simp only [rd_query_Where_16_5, rt_test, rt_next, rt_stop, el_map _ _ h, ln_map, inR_cast, Int.ofNat_lt, h, decide_true, if_true, row0, row1, h1, ok_some', out_some, uI_0, uI_s, uB_0, he, heb, ht', beq_self_eq_true, Bool.false_eq_true, if_false, w64_succ (i := p) (by omega)]
        rw [lres_next hnext, ih (p + 1) _ (by omega) (by omega) (by omega)]
        rw [whereF_cons he, if_neg ht]
        by_cases hr : (whereF (trueV E) (B.drop (p + 1))).2 = 0
        · simp [hr]
        · simp [hr]
    · have heb : ((trueV E B[p].row).2 != 0) = true := by simpa using he
      have hstop : (rd_query_Where_16_5 [.l (B.map Cnt.e), .i (B.length : Nat), .i (p : Nat), .s s0, .s s1, .s s2, .i i, .i j, .l (E.map Nd.e), .l l9, .b b10, .l l11, .l (O.map Cnt.e)]).val = some (.stop 0 [.i (trueV E B[p].row).2]) := by
        simp only [rd_query_Where_16_5, rt_test, rt_next, rt_stop, el_map _ _ h, ln_map, inR_cast, Int.ofNat_lt, h, decide_true, if_true, row0, row1, h1, ok_some', out_some, uI_0, uI_s, uB_0, heb, beq_self_eq_true]
      rw [lres_stop hstop, whereF_bad he, if_neg he]

theorem Where_res (n0 n1 w : List UInt8) (i j : Int) (E : List Nd) (hE : ∀ d ∈ E, d.ok) (l6 : List (List PV)) (b7 : Bool) (l8 : List (List PV)) (B : List Cnt) (hB : okB B) (h0 : B.length ≤ 1000000) :
    (m_query_Where [.s (bs n0), .s (bs n1), .s (bs w), .i i, .i j, .l (E.map Nd.e), .l l6, .b b7, .l l8, .l (B.map Cnt.e)]).res = some (0, [.i (whereV (trueV E) B).2, .l ((whereV (trueV E) B).1.map Cnt.e)]) := by
  have h1 := bag_May_res B hB
  by_cases mB : mayB B = true
  · have h2 := where_loop (bs n0) (bs n1) (bs w) i j E hE l6 b7 l8 B hB h0 B.length 0 [] (by omega) (by omega) (by simp)
    simp only [Int.natCast_zero, List.drop_zero, List.map_nil, List.nil_append] at h2
    by_cases he : (whereF (trueV E) B).2 = 0
    · rw [if_pos he] at h2
      simp only [m_query_Where, h1, mB, ok_some', out_some, res_test, res_stop, uB_0, Bool.not_true, Bool.false_eq_true, if_false, beq_self_eq_true, if_true, ln_map, h2, ok01, uL_0, whereV, he]
    · rw [if_neg he] at h2
      simp only [m_query_Where, h1, mB, ok_some', out_some, res_test, res_stop, uB_0, Bool.not_true, Bool.false_eq_true, if_false, beq_self_eq_true, if_true, ln_map, h2, uI_0, whereV, (whereF_nil he).1, List.map_nil]
  · have mB' : mayB B = false := by simpa using mB
    simp only [m_query_Where, h1, mB', ok_some', out_some, res_test, res_stop, uB_0, Bool.not_false, Bool.false_eq_true, if_false, beq_self_eq_true, if_true, whereV, List.map_nil]

theorem whereV_sub {f : List Val → Bool × Int} {B : List Cnt} : (whereV f B).1 = [] ∨ ((whereV f B).2 = 0 ∧ mayB B = true ∧ (whereV f B).1 = keepB (fun r => (f r).1) B) := by
  unfold whereV
  by_cases m : mayB B = true
  · rw [if_pos m]
    by_cases he : (whereF f B).2 = 0
    · exact .inr ⟨he, m, whereF_eq he⟩
    · exact .inl (whereF_nil he).1
  · rw [if_neg m]; exact .inl rfl

theorem keep_okB {p : List Val → Bool} {B : List Cnt} (h : okB B) : okB (keepB p B) := ⟨Nat.le_trans (List.length_filter_le _ _) h.1, fun c hc => h.2 c (List.mem_filter.1 hc).1⟩
theorem keep_len (p : List Val → Bool) (B : List Cnt) : (keepB p B).length ≤ B.length := List.length_filter_le _ _

theorem whereV_okB {f : List Val → Bool × Int} {B : List Cnt} (h : okB B) : okB (whereV f B).1 ∧ (whereV f B).1.length ≤ B.length := by
  rcases whereV_sub (f := f) (B := B) with e | ⟨_, _, e⟩
  · rw [e]; exact ⟨⟨by simp, fun c hc => by cases hc⟩, by simp⟩
  · rw [e]; exact ⟨keep_okB h, keep_len _ _⟩

/-! picks -/

theorem pick_loop (s0 s1 s2 : ByteArray) (i j : Int) (l8 : List (List PV)) (P : List Int) (hP : P.length ≤ 1000000) (b10 : Bool) (l11 : List (List PV)) (B : List Cnt) (h0 : B.length ≤ 1000000) :
    lres rd_query_Pick_17_5 [.l (B.map Cnt.e), .i (B.length : Nat), .i 0, .s s0, .s s1, .s s2, .i i, .i j, .l l8, .l (P.map kE), .b b10, .l l11, .l []] = some (0, [.l ((pickL P B).map Cnt.e)]) := by
  have h := loop_acc B.length (rd := rd_query_Pick_17_5) (fun p => [.l (B.map Cnt.e), .i (B.length : Nat), .i (p : Nat), .s s0, .s s1, .s s2, .i i, .i j, .l l8, .l (P.map kE), .b b10, .l l11, .l ((pickL P (B.take p)).map Cnt.e)]) (some (0, [.l ((pickL P B).map Cnt.e)]))
    (lres_stop (by simp [rd_query_Pick_17_5])) (by
    intro p h
    have h1 := Pick_res B[p].row P hP
    have row0 : cL B[p].e 0 = re B[p].row := rfl
    have row1 : cI B[p].e 1 = B[p].n := rfl
    have ht : pickL P (B.take (p + 1)) = pickL P (B.take p) ++ pickC P B[p] := by
      rw [take_one B h]; unfold pickL; rw [List.flatMap_append]; simp
    have r2 : (((pickL P (B.take p)).map Cnt.e).length + 1) * 32 ≤ 140737488355328 := by
      have := pick_len P (B.take p)
      rw [List.length_map]
      rw [List.length_take] at this
      omega
    have hl : ln (re (pickR B[p].row P)) = ((pickR B[p].row P).length : Int) := ln_re _
    by_cases c1 : pickOk B[p].row P = true
    · by_cases c2 : (pickR B[p].row P).length ≤ 40
      · have c2' : ((pickR B[p].row P).length : Int) ≤ 40 := by omega
        have hO : (pickL P (B.take p)).map Cnt.e ++ [[PV.lst 48 (re (pickR B[p].row P)), pI B[p].n]] = (pickL P (B.take (p + 1))).map Cnt.e := by
          rw [ht, List.map_append]
          unfold pickC
          rw [if_pos ⟨c1, c2⟩]; rfl
        simp only [rd_query_Pick_17_5, rt_test, rt_next, rt_stop, el_map _ _ h, ln_map, inR_cast, Int.ofNat_lt, h, decide_true, if_true, row0, row1, h1, ok_some', out_some, uB_0, uL_0, uL_s, c1, hl, c2', r2, hO, beq_self_eq_true, w64_succ (i := p) (by omega)]
      · have c2' : ¬ ((pickR B[p].row P).length : Int) ≤ 40 := by omega
        have hO : (pickL P (B.take (p + 1))) = pickL P (B.take p) := by
          rw [ht]
          unfold pickC
          rw [if_neg fun h => c2 h.2, List.append_nil]
        simp only [rd_query_Pick_17_5, rt_test, rt_next, rt_stop, el_map _ _ h, ln_map, inR_cast, Int.ofNat_lt, h, decide_true, if_true, row0, row1, h1, ok_some', out_some, uB_0, uL_0, uL_s, c1, hl, c2', decide_false, Bool.false_eq_true, if_false, hO, beq_self_eq_true, w64_succ (i := p) (by omega)]
    · have c1' : pickOk B[p].row P = false := by simpa using c1
      have hO : (pickL P (B.take (p + 1))) = pickL P (B.take p) := by
        rw [ht]
        unfold pickC
        rw [if_neg fun h => c1 h.1, List.append_nil]
      simp only [rd_query_Pick_17_5, rt_test, rt_next, rt_stop, el_map _ _ h, ln_map, inR_cast, Int.ofNat_lt, h, decide_true, if_true, row0, row1, h1, ok_some', out_some, uB_0, uL_0, uL_s, c1', Bool.false_eq_true, if_false, hO, beq_self_eq_true, w64_succ (i := p) (by omega)])
  simp only [List.take_zero, Int.natCast_zero] at h
  exact h

theorem pick_okB {P : List Int} {B : List Cnt} (h : okB B) (h0 : B.length ≤ 1000000) (hP : P.length ≤ 1000000) : okB (pickL P B) := by
  refine ⟨Nat.le_trans (pick_len P B) h.1, fun c hc => ?_⟩
  obtain ⟨b, hb, hc⟩ := List.mem_flatMap.1 hc
  unfold pickC at hc
  split at hc
  · rename_i hk
    rw [List.mem_singleton] at hc
    subst hc
    refine ⟨⟨by show (pickR b.row P).length ≤ _; omega, fun v hv => ?_⟩, (h.2 b hb).2⟩
    obtain ⟨k, hkm, rfl⟩ := List.mem_map.1 hv
    have hk2 := hk.1
    unfold pickOk at hk2
    have := of_decide_eq_true (List.all_eq_true.1 hk2 k hkm)
    have hlt : k.toNat < b.row.length := by omega
    have e : b.row.getD k.toNat nul = b.row[k.toNat] := by rw [List.getD, List.getElem?_eq_getElem hlt]; rfl
    rw [e]
    exact (h.2 b hb).1.2 _ (List.getElem_mem hlt)
  · cases hc

theorem PickB_res (n0 n1 w : List UInt8) (i j : Int) (l5 : List (List PV)) (P : List Int) (hP : P.length ≤ 1000000) (b7 : Bool) (l8 : List (List PV)) (B : List Cnt) (hB : okB B) (h0 : B.length ≤ 1000000) :
    (m_query_Pick [.s (bs n0), .s (bs n1), .s (bs w), .i i, .i j, .l l5, .l (P.map kE), .b b7, .l l8, .l (B.map Cnt.e)]).res = some (0, [.l ((pickV P B).map Cnt.e)]) := by
  have h1 := bag_May_res B hB
  by_cases mB : mayB B = true
  · have h2 := pick_loop (bs n0) (bs n1) (bs w) i j l5 P hP b7 l8 B h0
    have p1 := pick_okB hB h0 hP
    have p2 : absN (pickL P B) ≤ 4611686018427387904 := Nat.le_trans (pick_absN P B) (may_abs mB h0)
    have h3 := Sum_res _ p1 p2
    have h4 := bag_May_res _ (sumB_okB p1 p2)
    by_cases hs : mayB (sumB (pickL P B)) = true
    · simp only [m_query_Pick, h1, mB, ok_some', out_some, res_test, res_stop, uB_0, Bool.not_true, Bool.false_eq_true, if_false, beq_self_eq_true, if_true, ln_map, h2, uL_0, h3, h4, hs, pickV, and_self]
    · have hs' : mayB (sumB (pickL P B)) = false := by simpa using hs
      simp only [m_query_Pick, h1, mB, ok_some', out_some, res_test, res_stop, uB_0, Bool.not_true, Bool.not_false, Bool.false_eq_true, if_false, beq_self_eq_true, if_true, ln_map, h2, uL_0, h3, h4, hs', pickV, and_false, List.map_nil]
  · have mB' : mayB B = false := by simpa using mB
    simp only [m_query_Pick, h1, mB', ok_some', out_some, res_test, res_stop, uB_0, Bool.not_false, Bool.false_eq_true, if_false, beq_self_eq_true, if_true, pickV, false_and, List.map_nil]

end Go.Proofs.Ytikmahlogjcieaa

set_option linter.unusedVariables false
set_option linter.unusedSimpArgs false
namespace Go.Proofs.Ytikmahlogjcieaa
open Go Go.Pu

def low3 (b : List Cnt) : Bool := b.all fun c => decide (-1000 ≤ c.n) && decide (c.n ≤ 1000)
def lowS (b : List Cnt) : Bool := low3 b && smallB b

theorem Low_res (b : List Cnt) (hb : okB b) : (m_R10_Low [.l (b.map Cnt.e)]).res = some (0, [.b (lowS b)]) := by
  have hlen := hb.1
  have h := loop_all' b (rd := rd_R10_Low_11_2) (fun i => [.l (b.map Cnt.e), .i (i : Nat)]) (fun c => decide (-1000 ≤ c.n) && decide (c.n ≤ 1000)) 0 1 [.b false] [.l (b.map Cnt.e)]
    (by simp [rd_R10_Low_11_2]) (by
    intro i h
    have row1 : cI b[i].e 1 = b[i].n := rfl
    simp only [rd_R10_Low_11_2, rt_test, rt_next, rt_stop, el_map _ _ h, ln_map, inR_cast, Int.ofNat_lt, h, decide_true, if_true, row1, w64_succ (i := i) (by omega)]
    by_cases c1 : b[i].n > 1000
    · have : ¬ b[i].n ≤ 1000 := by omega
      simp only [c1, this, decide_true, decide_false, Bool.and_false, Bool.false_eq_true, if_false, if_true]
    · by_cases c2 : b[i].n < -1000
      · have : ¬ -1000 ≤ b[i].n := by omega
        simp only [c1, c2, this, decide_true, decide_false, Bool.false_and, Bool.false_eq_true, if_false, if_true]
      · have c3 : b[i].n ≤ 1000 := by omega
        have c4 : -1000 ≤ b[i].n := by omega
        simp only [c1, c2, c3, c4, decide_true, decide_false, Bool.and_self, Bool.false_eq_true, if_false, if_true])
  simp only [Int.natCast_zero] at h
  have h2 := R05_Small_res b hb
  unfold lowS low3
  by_cases e : (b.all fun c => decide (-1000 ≤ c.n) && decide (c.n ≤ 1000)) = true
  · rw [if_pos e] at h
    simp only [m_R10_Low, h, ok_some', out_some, res_test, res_stop, ok01, Bool.false_eq_true, if_false, beq_self_eq_true, if_true, uL_0, h2, uB_0, e, Bool.true_and]
  · have e' : (b.all fun c => decide (-1000 ≤ c.n) && decide (c.n ≤ 1000)) = false := by simpa using e
    rw [if_neg e] at h
    simp only [m_R10_Low, h, ok_some', out_some, res_test, res_stop, beq_self_eq_true, if_true, uB_0, e', Bool.false_and]

theorem lowS_of {b : List Cnt} (h : lowS b = true) : b.length ≤ 60 ∧ absN b ≤ 60000 ∧ ∀ c ∈ b, -1000 ≤ c.n ∧ c.n ≤ 1000 := by
  unfold lowS at h
  rw [Bool.and_eq_true] at h
  have h1 := smallB_len h.2
  have h2 : ∀ c ∈ b, -1000 ≤ c.n ∧ c.n ≤ 1000 := fun c hc => by
    have := List.all_eq_true.1 h.1 c hc
    simpa using this
  have h3 := absN_le (b := b) (m := 1000) fun c hc => by have := h2 c hc; omega
  have h4 : b.length * 1000 ≤ 60 * 1000 := Nat.mul_le_mul_right _ h1
  exact ⟨h1, by omega, h2⟩

theorem RAt_res (r : List Val) (n : Int) : (m_R10_At [.l (re r), .i n]).res = some (0, [.i (atV r n).k, .i (atV r n).n, .s (bs (atV r n).s)]) := by
  unfold atV
  by_cases h1 : n < 0
  · have : ¬ (0 ≤ n ∧ n < (r.length : Int)) := by omega
    simp [m_R10_At, h1, this, nul, bs_nil]
  · by_cases h2 : n ≥ (r.length : Int)
    · have : ¬ (0 ≤ n ∧ n < (r.length : Int)) := by omega
      simp [m_R10_At, h1, h2, this, nul, bs_nil]
    · have h3 : 0 ≤ n ∧ n < (r.length : Int) := by omega
      have hk : n.toNat < r.length := by omega
      have e1 : el (re r) n = Val.e r[n.toNat] := by
        unfold el re
        rw [List.getD, List.getElem?_map, List.getElem?_eq_getElem hk]
        rfl
      have e2 : r.getD n.toNat nul = r[n.toNat] := by rw [List.getD, List.getElem?_eq_getElem hk]; rfl
      have e3 : inR n (r.length : Int) = true := inR_iff.2 h3
      rw [if_pos h3, e2]
      simp [m_R10_At, h1, h2, e3, e1, Val.e]

/-! changes of products -/

theorem dmay_res (ls : List (List Cnt)) (h0 : ls.length ≤ 1000000) (hl : ∀ b ∈ ls, okB b) : (m_delta_may [.l (ls.map beE)]).res = some (0, [.b (ls.all mayB)]) := by
  have h := loop_all' ls (rd := rd_delta_may_63_2) (fun i => [.l (ls.map beE), .i (ls.length : Nat), .i (i : Nat)]) mayB 0 1 [.b false] []
    (by simp [rd_delta_may_63_2]) (by
    intro i h
    have h1 := bag_May_res ls[i] (hl _ (List.getElem_mem h))
    have row0 : cL (beE ls[i]) 0 = ls[i].map Cnt.e := rfl
    simp only [rd_delta_may_63_2, rt_test, rt_next, rt_stop, el_map _ _ h, ln_map, inR_cast, Int.ofNat_lt, h, decide_true, if_true, row0, h1, ok_some', out_some, uB_0, beq_self_eq_true, w64_succ (i := i) (by omega)]
    by_cases hm : mayB ls[i] = true
    · simp [hm]
    · simp [hm])
  simp only [Int.natCast_zero] at h
  by_cases e : ls.all mayB = true
  · rw [if_pos e] at h
    simp only [m_delta_may, ln_map, h, ok_some', out_some, res_test, res_stop, ok01, Bool.false_eq_true, if_false, beq_self_eq_true, if_true, e]
  · have e' : ls.all mayB = false := by simpa using e
    rw [if_neg e] at h
    simp only [m_delta_may, ln_map, h, ok_some', out_some, res_test, res_stop, beq_self_eq_true, if_true, uB_0, e']

/-- two bags in one element -/
def twoE (x : List Cnt × List Cnt) : List PV := [.lst 46 (x.1.map Cnt.e), .lst 46 (x.2.map Cnt.e)]

theorem dpart (n0 n1 w : List UInt8) (i j : Int) (l7 l8 : List (List PV)) (b9 : Bool) (l10 : List (List PV)) (T : List (List Cnt × List Cnt)) (hT : T.length ≤ 1000) (hok : ∀ x ∈ T, okB x.1 ∧ okB x.2 ∧ x.1.length ≤ 1000000 ∧ x.2.length ≤ 1000000) :
    lres rd_delta_Product_45_7 [.i (T.length : Nat), .i 0, .s (bs n0), .s (bs n1), .s (bs w), .i i, .i j, .l l7, .l l8, .b b9, .l l10, .l [], .l (T.map twoE)] =
      if (T.all fun x => decide ((prodV w i j x.1 x.2).2 = 0)) = true then some (1, [.l ((T.map fun x => (prodV w i j x.1 x.2).1).map beE)]) else some (0, [.i 100]) := by
  have h := loop_all' T (rd := rd_delta_Product_45_7) (fun p => [.i (T.length : Nat), .i (p : Nat), .s (bs n0), .s (bs n1), .s (bs w), .i i, .i j, .l l7, .l l8, .b b9, .l l10, .l (((T.take p).map fun x => (prodV w i j x.1 x.2).1).map beE), .l (T.map twoE)])
    (fun x => decide ((prodV w i j x.1 x.2).2 = 0)) 0 1 [.i 100] [.l ((T.map fun x => (prodV w i j x.1 x.2).1).map beE)]
    (by simp [rd_delta_Product_45_7]) (by
    intro p hp
    obtain ⟨o1, o2, o3, o4⟩ := hok _ (List.getElem_mem hp)
    have h1 := Product_res n0 n1 w i j l7 l8 b9 l10 T[p].1 T[p].2 o1 o2 o3 o4
    have row0 : cL (twoE T[p]) 0 = T[p].1.map Cnt.e := rfl
    have row1 : cL (twoE T[p]) 1 = T[p].2.map Cnt.e := rfl
    have hlt : Int.toNat (p : Int) < (T.map twoE).length := by simpa using hp
    have r1 : ((((T.take p).map fun x => (prodV w i j x.1 x.2).1).map beE).length + 1) * 24 ≤ 140737488355328 := by
      simp only [List.length_map, List.length_take]; omega
    by_cases hz : (prodV w i j T[p].1 T[p].2).2 = 0
    · have hb : ((0 : Int) != 0) = false := rfl
      have hn : ((T.take p).map fun x => (prodV w i j x.1 x.2).1).map beE ++ [[PV.lst 46 ((prodV w i j T[p].1 T[p].2).1.map Cnt.e)]] = ((T.take (p + 1)).map fun x => (prodV w i j x.1 x.2).1).map beE := by
        rw [take_one T hp]; simp only [List.map_append]; rfl
      simp only [rd_delta_Product_45_7, rt_test, rt_next, rt_stop, el_map _ _ hp, ln_map, inR_cast, Int.ofNat_lt, hp, hlt, decide_true, if_true, row0, row1, h1, ok_some', out_some, uI_0, uL_0, uL_s, hz, hb, beq_self_eq_true, Bool.false_eq_true, if_false, r1, hn, w64_succ (i := p) (by omega)]
    · have hb : ((prodV w i j T[p].1 T[p].2).2 != 0) = true := by simpa using hz
      have he : (prodV w i j T[p].1 T[p].2).2 = 100 := by rw [prodV_err hz]
      rw [he] at hb
      simp only [rd_delta_Product_45_7, rt_test, rt_next, rt_stop, el_map _ _ hp, ln_map, inR_cast, Int.ofNat_lt, hp, hlt, decide_true, if_true, row0, row1, h1, ok_some', out_some, uI_0, he, hb, beq_self_eq_true]
      rw [if_neg (by simp)])
  simp only [List.take_zero, Int.natCast_zero, List.map_nil] at h
  exact h

theorem dflat (ls : List (List Cnt)) (h0 : ls.length ≤ 1000000) (h1 : ls.flatten.length ≤ 10000000) :
    lres rd_delta_Product_45_16 [.i (ls.length : Nat), .i 0, .l [], .l (ls.map beE)] = some (0, [.l (ls.flatten.map Cnt.e)]) := by
  have h := loop_acc (rd := rd_delta_Product_45_16) ls.length (fun i => [.i (ls.length : Nat), .i (i : Nat), .l ((ls.take i).flatten.map Cnt.e), .l (ls.map beE)]) (some (0, [.l (ls.flatten.map Cnt.e)]))
    (lres_stop (by simp [rd_delta_Product_45_16])) (by
    intro i h
    have row0 : cL (beE ls[i]) 0 = ls[i].map Cnt.e := rfl
    have hlt : Int.toNat (i : Int) < (ls.map beE).length := by simpa using h
    have e1 := flat_take ls h
    have e2 := flat_le ls (i + 1)
    have r1 : (((ls.take i).flatten.map Cnt.e).length + (ls[i].map Cnt.e).length) * 32 ≤ 140737488355328 := by
      rw [e1, List.length_append] at e2
      simp only [List.length_map]; omega
    have hn : (ls.take i).flatten.map Cnt.e ++ ls[i].map Cnt.e = (ls.take (i + 1)).flatten.map Cnt.e := by rw [e1, List.map_append]
    simp only [rd_delta_Product_45_16, rt_test, rt_next, rt_stop, el_map _ _ h, ln_map, inR_cast, Int.ofNat_lt, h, hlt, decide_true, if_true, row0, r1, hn, w64_succ (i := i) (by omega)])
  simp only [List.take_zero, Int.natCast_zero, List.flatten_nil, List.map_nil] at h
  exact h

theorem prodV_n {w : List UInt8} {i j : Int} {A B : List Cnt} : ∀ c ∈ (prodV w i j A B).1, c.n.natAbs ≤ 1000000000 := fun c hc => mayB_n (prodV_may w i j A B) hc

theorem dsum_ok {w : List UInt8} {i j : Int} {A dA B dB : List Cnt} (hA : okB A) (hdA : okB dA) (hB : okB B) (hdB : okB dB) (a0 : A.length ≤ 1000000) (a1 : dA.length ≤ 1000000) :
    okB ((prodV w i j dA B).1 ++ (prodV w i j A dB).1 ++ (prodV w i j dA dB).1) ∧ ((prodV w i j dA B).1 ++ (prodV w i j A dB).1 ++ (prodV w i j dA dB).1).length ≤ 4000000 ∧ absN ((prodV w i j dA B).1 ++ (prodV w i j A dB).1 ++ (prodV w i j dA dB).1) ≤ 4611686018427387904 := by
  have l1 := prodV_len (w := w) (i := i) (j := j) (A := dA) (B := B)
  have l2 := prodV_len (w := w) (i := i) (j := j) (A := A) (B := dB)
  have l3 := prodV_len (w := w) (i := i) (j := j) (A := dA) (B := dB)
  have hl : ((prodV w i j dA B).1 ++ (prodV w i j A dB).1 ++ (prodV w i j dA dB).1).length ≤ 4000000 := by simp only [List.length_append]; omega
  have hm : ∀ c ∈ (prodV w i j dA B).1 ++ (prodV w i j A dB).1 ++ (prodV w i j dA dB).1, c.n.natAbs ≤ 1000000000 ∧ c.ok := fun c hc => by
    rcases List.mem_append.1 hc with hc | hc
    · rcases List.mem_append.1 hc with hc | hc
      · exact ⟨prodV_n c hc, (prodV_okB hdA hB).2 c hc⟩
      · exact ⟨prodV_n c hc, (prodV_okB hA hdB).2 c hc⟩
    · exact ⟨prodV_n c hc, (prodV_okB hdA hdB).2 c hc⟩
  refine ⟨⟨by omega, fun c hc => (hm c hc).2⟩, hl, ?_⟩
  have h3 := absN_le (m := 1000000000) fun c hc => (hm c hc).1
  have h4 : ((prodV w i j dA B).1 ++ (prodV w i j A dB).1 ++ (prodV w i j dA dB).1).length * 1000000000 ≤ 4000000 * 1000000000 := Nat.mul_le_mul_right _ hl
  omega

theorem DProduct_res (n0 n1 w : List UInt8) (i j : Int) (l5 l6 : List (List PV)) (b7 : Bool) (l8 : List (List PV)) (A dA B dB : List Cnt) (hA : okB A) (hdA : okB dA) (hB : okB B) (hdB : okB dB) (a0 : A.length ≤ 1000000) (a1 : dA.length ≤ 1000000) (a2 : B.length ≤ 1000000) (a3 : dB.length ≤ 1000000) :
    (m_delta_Product [.s (bs n0), .s (bs n1), .s (bs w), .i i, .i j, .l l5, .l l6, .b b7, .l l8, .l (A.map Cnt.e), .l (dA.map Cnt.e), .l (B.map Cnt.e), .l (dB.map Cnt.e)]).res =
      some (0, [.i (deltaV w i j A dA B dB).2, .l ((deltaV w i j A dA B dB).1.map Cnt.e)]) := by
  have h1 := dmay_res [A, dA, B, dB] (by simp) (by
    intro b hb
    simp only [List.mem_cons, List.not_mem_nil, or_false] at hb
    rcases hb with rfl | rfl | rfl | rfl <;> assumption)
  have e1 : [A, dA, B, dB].map beE = [[PV.lst 46 (A.map Cnt.e)], [PV.lst 46 (dA.map Cnt.e)], [PV.lst 46 (B.map Cnt.e)], [PV.lst 46 (dB.map Cnt.e)]] := rfl
  rw [e1] at h1
  by_cases hm : mayB A = true ∧ mayB dA = true ∧ mayB B = true ∧ mayB dB = true
  · have hm' : [A, dA, B, dB].all mayB = true := by simp [hm]
    rw [hm'] at h1
    by_cases hw : w = []
    · have h3 := bag_Plus_res [dA] (by simp) (by simpa using a1) (by simpa using hdA)
      rw [plus_one hm.2.1] at h3
      have h4 : [dA].map beE = [[PV.lst 46 (dA.map Cnt.e)]] := rfl
      rw [h4] at h3
      simp only [m_delta_Product, h1, ok_some', out_some, res_test, res_stop, uB_0, Bool.not_true, Bool.false_eq_true, if_false, beq_self_eq_true, if_true, bs_toList, hw, h3, uL_0, deltaV, hm, and_self]
    · have hw' : (w == []) = false := by simpa using hw
      have h2 := dpart n0 n1 w i j l5 l6 b7 l8 [(dA, B), (A, dB), (dA, dB)] (by simp) (by
        intro x hx
        simp only [List.mem_cons, List.not_mem_nil, or_false] at hx
        rcases hx with rfl | rfl | rfl
        · exact ⟨hdA, hB, a1, a2⟩
        · exact ⟨hA, hdB, a0, a3⟩
        · exact ⟨hdA, hdB, a1, a3⟩)
      have e2 : [(dA, B), (A, dB), (dA, dB)].map twoE = [[PV.lst 46 (dA.map Cnt.e), PV.lst 46 (B.map Cnt.e)], [PV.lst 46 (A.map Cnt.e), PV.lst 46 (dB.map Cnt.e)], [PV.lst 46 (dA.map Cnt.e), PV.lst 46 (dB.map Cnt.e)]] := rfl
      rw [e2] at h2
      have e3 : (([(dA, B), (A, dB), (dA, dB)] : List (List Cnt × List Cnt)).length : Int) = 3 := rfl
      rw [e3] at h2
      by_cases hz : (prodV w i j dA B).2 = 0 ∧ (prodV w i j A dB).2 = 0 ∧ (prodV w i j dA dB).2 = 0
      · have hz' : ([(dA, B), (A, dB), (dA, dB)].all fun x => decide ((prodV w i j x.1 x.2).2 = 0)) = true := by simp [hz]
        rw [if_pos hz'] at h2
        have e4 : ([(dA, B), (A, dB), (dA, dB)].map fun x => (prodV w i j x.1 x.2).1) = [(prodV w i j dA B).1, (prodV w i j A dB).1, (prodV w i j dA dB).1] := rfl
        rw [e4] at h2
        obtain ⟨s1, s2, s3⟩ := dsum_ok (w := w) (i := i) (j := j) hA hdA hB hdB a0 a1
        have ef : [(prodV w i j dA B).1, (prodV w i j A dB).1, (prodV w i j dA dB).1].flatten = (prodV w i j dA B).1 ++ (prodV w i j A dB).1 ++ (prodV w i j dA dB).1 := by simp
        have h3 := dflat [(prodV w i j dA B).1, (prodV w i j A dB).1, (prodV w i j dA dB).1] (by simp) (by rw [ef]; omega)
        rw [ef] at h3
        have h4 := Sum_res _ s1 s3
        have h5 := bag_May_res _ (sumB_okB s1 s3)
        have hne : ¬ ((prodV w i j dA B).2 ≠ 0 ∨ (prodV w i j A dB).2 ≠ 0 ∨ (prodV w i j dA dB).2 ≠ 0) := by simp [hz]
        have hd : deltaV w i j A dA B dB = if mayB (sumB ((prodV w i j dA B).1 ++ (prodV w i j A dB).1 ++ (prodV w i j dA dB).1)) = true then (sumB ((prodV w i j dA B).1 ++ (prodV w i j A dB).1 ++ (prodV w i j dA dB).1), 0) else ([], 100) := by
          unfold deltaV
          rw [if_pos hm, if_neg hw, if_neg hne]
        rw [hd]
        simp only [m_delta_Product, h1, ok_some', out_some, res_test, res_stop, uB_0, Bool.not_true, Bool.false_eq_true, if_false, beq_self_eq_true, if_true, bs_toList, hw', h2, ok01, uL_0, ln_map, h3, h4, h5]
        by_cases hs : mayB (sumB ((prodV w i j dA B).1 ++ (prodV w i j A dB).1 ++ (prodV w i j dA dB).1)) = true
        · simp only [hs, Bool.not_true, Bool.false_eq_true, if_false, if_true]
        · have hs' : mayB (sumB ((prodV w i j dA B).1 ++ (prodV w i j A dB).1 ++ (prodV w i j dA dB).1)) = false := by simpa using hs
          simp only [hs', Bool.not_false, Bool.false_eq_true, if_false, if_true, List.map_nil]
      · have hz' : ¬ ([(dA, B), (A, dB), (dA, dB)].all fun x => decide ((prodV w i j x.1 x.2).2 = 0)) = true := by
          intro h
          simp only [List.all_cons, List.all_nil, Bool.and_true, Bool.and_eq_true, decide_eq_true_eq] at h
          exact hz h
        rw [if_neg hz'] at h2
        have hne : (prodV w i j dA B).2 ≠ 0 ∨ (prodV w i j A dB).2 ≠ 0 ∨ (prodV w i j dA dB).2 ≠ 0 := by
          apply Classical.byContradiction
          intro hn
          simp only [ne_eq, not_or, Decidable.not_not] at hn
          exact hz hn
        have hd : deltaV w i j A dA B dB = ([], 100) := by
          unfold deltaV
          rw [if_pos hm, if_neg hw, if_pos hne]
        rw [hd]
        simp only [m_delta_Product, h1, ok_some', out_some, res_test, res_stop, uB_0, Bool.not_true, Bool.false_eq_true, if_false, beq_self_eq_true, if_true, bs_toList, hw', h2, uI_0, List.map_nil]
  · have hm' : [A, dA, B, dB].all mayB = false := by
      apply Bool.eq_false_iff.2
      intro h
      simp only [List.all_cons, List.all_nil, Bool.and_true, Bool.and_eq_true] at h
      exact hm h
    rw [hm'] at h1
    have hd : deltaV w i j A dA B dB = ([], 1) := by unfold deltaV; rw [if_neg hm]
    rw [hd]
    simp only [m_delta_Product, h1, ok_some', out_some, res_test, res_stop, uB_0, Bool.not_false, Bool.false_eq_true, if_false, beq_self_eq_true, if_true, List.map_nil]

theorem deltaV_okB {w : List UInt8} {i j : Int} {A dA B dB : List Cnt} (hA : okB A) (hdA : okB dA) (hB : okB B) (hdB : okB dB) (a0 : A.length ≤ 300000) (a1 : dA.length ≤ 300000) : okB (deltaV w i j A dA B dB).1 ∧ (deltaV w i j A dA B dB).1.length ≤ 1000000 := by
  obtain ⟨s1, s2, s3⟩ := dsum_ok (w := w) (i := i) (j := j) hA hdA hB hdB (by omega) (by omega)
  have l1 := prodV_len (w := w) (i := i) (j := j) (A := dA) (B := B)
  have l2 := prodV_len (w := w) (i := i) (j := j) (A := A) (B := dB)
  have l3 := prodV_len (w := w) (i := i) (j := j) (A := dA) (B := dB)
  unfold deltaV
  split
  · split
    · exact ⟨hdA, by simp only; omega⟩
    · split
      · exact ⟨⟨by simp, fun c hc => by cases hc⟩, by simp⟩
      · simp only
        split
        · refine ⟨sumB_okB s1 s3, ?_⟩
          have := sumB_len ((prodV w i j dA B).1 ++ (prodV w i j A dB).1 ++ (prodV w i j dA dB).1)
          simp only [List.length_append] at this ⊢
          omega
        · exact ⟨⟨by simp, fun c hc => by cases hc⟩, by simp⟩
  · exact ⟨⟨by simp, fun c hc => by cases hc⟩, by simp⟩

theorem Joined_res (n0 n1 w : List UInt8) (i j : Int) (E : List Nd) (hE : ∀ d ∈ E, d.ok) (l6 : List (List PV)) (b7 : Bool) (l8 : List (List PV)) (A dA B dB : List Cnt) (hA : okB A) (hdA : okB dA) (hB : okB B) (hdB : okB dB) (a0 : A.length ≤ 300000) (a1 : dA.length ≤ 300000) (a2 : B.length ≤ 1000000) (a3 : dB.length ≤ 1000000) :
    (m_delta_Joined [.s (bs n0), .s (bs n1), .s (bs w), .i i, .i j, .l (E.map Nd.e), .l l6, .b b7, .l l8, .l (A.map Cnt.e), .l (dA.map Cnt.e), .l (B.map Cnt.e), .l (dB.map Cnt.e)]).res =
      some (0, [.i (thenW (trueV E) (deltaV w i j A dA B dB)).2, .l ((thenW (trueV E) (deltaV w i j A dA B dB)).1.map Cnt.e)]) := by
  have h1 := DProduct_res n0 n1 w i j (E.map Nd.e) l6 b7 l8 A dA B dB hA hdA hB hdB (by omega) (by omega) a2 a3
  obtain ⟨d1, d2⟩ := deltaV_okB (w := w) (i := i) (j := j) hA hdA hB hdB a0 a1
  have h2 := Where_res n0 n1 w i j E hE l6 b7 l8 _ d1 d2
  unfold thenW
  by_cases hz : (deltaV w i j A dA B dB).2 = 0
  · have hb : ((0 : Int) != 0) = false := rfl
    rw [if_neg (by simpa using hz)]
    simp only [m_delta_Joined, h1, ok_some', out_some, res_test, res_stop, uI_0, uI_s, uL_0, uL_s, hz, hb, Bool.false_eq_true, if_false, beq_self_eq_true, if_true, h2]
  · have hb : ((deltaV w i j A dA B dB).2 != 0) = true := by simpa using hz
    rw [if_pos hz]
    simp only [m_delta_Joined, h1, ok_some', out_some, res_test, res_stop, uI_0, uI_s, uL_0, uL_s, hb, beq_self_eq_true, if_true, List.map_nil]

theorem thenW_okB {f : List Val → Bool × Int} {p : List Cnt × Int} (h : okB p.1) : okB (thenW f p).1 ∧ (thenW f p).1.length ≤ p.1.length := by
  unfold thenW
  split
  · exact ⟨⟨by simp, fun c hc => by cases hc⟩, by simp⟩
  · exact whereV_okB h

end Go.Proofs.Ytikmahlogjcieaa

set_option linter.unusedVariables false
set_option linter.unusedSimpArgs false
namespace Go.Proofs.Ytikmahlogjcieaa
open Go Go.Pu

section
variable (n0 n1 w : List UInt8) (i j : Int) (E : List Nd) (hE : ∀ d ∈ E, d.ok) (l6 : List (List PV)) (b7 : Bool) (l8 : List (List PV))

theorem nulls_loop (s0 s1 s2 : ByteArray) (l5 : List (List PV)) (A : List Cnt) (hA : okB A) (B : List (List PV)) :
    lres rd_L10_QueryNulls_7_4 [.l (A.map Cnt.e), .l B, .i 0, .s s0, .s s1, .s s2, .i i, .i j, .l l5, .l l6, .b b7, .l l8] =
      if (A.all fun c => decide ((atV c.row i).k = 0)) = true then some (1, [.l (A.map Cnt.e), .l B, .s s0, .s s1, .s s2, .i i, .i j, .l l5, .l l6, .b b7, .l l8]) else some (0, [.b true]) := by
  have h := loop_all' A (rd := rd_L10_QueryNulls_7_4) (fun p => [.l (A.map Cnt.e), .l B, .i (p : Nat), .s s0, .s s1, .s s2, .i i, .i j, .l l5, .l l6, .b b7, .l l8]) (fun c => decide ((atV c.row i).k = 0)) 0 1 [.b true]
    [.l (A.map Cnt.e), .l B, .s s0, .s s1, .s s2, .i i, .i j, .l l5, .l l6, .b b7, .l l8]
    (by simp [rd_L10_QueryNulls_7_4]) (by
    intro p hp
    have hlen := hA.1
    have h1 := RAt_res A[p].row i
    have row0 : cL A[p].e 0 = re A[p].row := rfl
    by_cases hk : (atV A[p].row i).k = 0
    · have hb : ((0 : Int) != 0) = false := rfl
      simp only [rd_L10_QueryNulls_7_4, rt_test, rt_next, rt_stop, el_map _ _ hp, ln_map, inR_cast, Int.ofNat_lt, hp, decide_true, if_true, row0, h1, ok_some', out_some, uI_0, hk, hb, beq_self_eq_true, Bool.false_eq_true, if_false, w64_succ (i := p) (by omega)]
    · have hb : ((atV A[p].row i).k != 0) = true := by simpa using hk
      simp only [rd_L10_QueryNulls_7_4, rt_test, rt_next, rt_stop, el_map _ _ hp, ln_map, inR_cast, Int.ofNat_lt, hp, decide_true, if_true, row0, h1, ok_some', out_some, uI_0, hb, beq_self_eq_true, hk, decide_false, Bool.false_eq_true, if_false])
  simp only [Int.natCast_zero] at h
  exact h

theorem pairs_none {i j : Int} {A B : List Cnt} (h : ∀ a ∈ A, ∀ b ∈ B, meetR i j a.row b.row = false) : pairsL i j A B = [] := by
  cases e : pairsL i j A B with
  | nil => rfl
  | cons c l =>
    obtain ⟨a, ha, b, hb, hm, _⟩ := pairs_mem (i := i) (j := j) (A := A) (B := B) (c := c) (by rw [e]; exact List.mem_cons_self ..)
    rw [h a ha b hb] at hm; cases hm

theorem prodV_none {w : List UInt8} {i j : Int} {A B : List Cnt} (hw : w ≠ []) (hA : mayB A = true) (hB : mayB B = true) (h : pairsL i j A B = []) : prodV w i j A B = ([], 0) := by
  unfold prodV
  rw [if_pos ⟨hA, hB⟩, if_neg hw, h]
  rfl

theorem queryNulls_res (l5 : List (List PV)) (A B : List Cnt) (hA : okB A) (hB : okB B) :
    (m_L10_QueryNulls [.s (bs n0), .s (bs n1), .s (bs w), .i i, .i j, .l l5, .l l6, .b b7, .l l8, .l (A.map Cnt.e), .l (B.map Cnt.e)]).res = some (0, [.b true]) := by
  have h1 := R05_Small_res A hA
  have h2 := R05_Small_res B hB
  have h3 := R05_May_res A hA
  have h4 := R05_May_res B hB
  cases g1 : smallB A with
  | false => simp only [m_L10_QueryNulls, h1, g1, ok_some', out_some, res_test, res_stop, uB_0, Bool.not_false, if_true, beq_self_eq_true]
  | true =>
  cases g2 : smallB B with
  | false => simp only [m_L10_QueryNulls, h1, g1, h2, g2, ok_some', out_some, res_test, res_stop, uB_0, Bool.not_true, Bool.not_false, Bool.false_eq_true, if_false, if_true, beq_self_eq_true]
  | true =>
  cases g3 : mayB A with
  | false => simp only [m_L10_QueryNulls, h1, g1, h2, g2, h3, g3, ok_some', out_some, res_test, res_stop, uB_0, Bool.not_true, Bool.not_false, Bool.false_eq_true, if_false, if_true, beq_self_eq_true]
  | true =>
  cases g4 : mayB B with
  | false => simp only [m_L10_QueryNulls, h1, g1, h2, g2, h3, g3, h4, g4, ok_some', out_some, res_test, res_stop, uB_0, Bool.not_true, Bool.not_false, Bool.false_eq_true, if_false, if_true, beq_self_eq_true]
  | true =>
  by_cases hw : w = []
  · have hw' : (w == []) = true := by simpa using hw
    simp only [m_L10_QueryNulls, h1, g1, h2, g2, h3, g3, h4, g4, ok_some', out_some, res_test, res_stop, uB_0, Bool.not_true, Bool.not_false, Bool.false_eq_true, if_false, if_true, beq_self_eq_true, bs_toList, hw']
  · have hw' : (w == []) = false := by simpa using hw
    have h5 := nulls_loop i j l6 b7 l8 (bs n0) (bs n1) (bs w) l5 A hA (B.map Cnt.e)
    by_cases hn : (A.all fun c => decide ((atV c.row i).k = 0)) = true
    · rw [if_pos hn] at h5
      have hz : ∀ a ∈ A, (atV a.row i).k = 0 := fun a ha => by simpa using List.all_eq_true.1 hn a ha
      have p1 : prodV w i j A B = ([], 0) := prodV_none hw g3 g4 (pairs_none fun a ha b hb => by simp [meetR, hz a ha])
      have p2 : prodV w j i B A = ([], 0) := prodV_none hw g4 g3 (pairs_none fun b hb a ha => by
        simp only [meetR, decide_eq_false_iff_not, not_and, Decidable.not_not]
        intro e
        rw [e]; exact hz a ha)
      have h6 := Product_res n0 n1 w i j l5 l6 b7 l8 A B hA hB (by have := smallB_len g1; omega) (by have := smallB_len g2; omega)
      have h7 := Product_res n0 n1 w j i l5 l6 b7 l8 B A hB hA (by have := smallB_len g2; omega) (by have := smallB_len g1; omega)
      rw [p1] at h6
      rw [p2] at h7
      simp only [m_L10_QueryNulls, h1, g1, h2, g2, h3, g3, h4, g4, ok_some', out_some, res_test, res_stop, uB_0, Bool.not_true, Bool.not_false, Bool.false_eq_true, if_false, if_true, beq_self_eq_true, bs_toList, hw', h5, ok01, uL_0, uL_s, uI_0, uI_s, uS_0, uS_s, uB_s, h6, h7, List.map_nil, ln_nil]
    · rw [if_neg hn] at h5
      simp only [m_L10_QueryNulls, h1, g1, h2, g2, h3, g3, h4, g4, ok_some', out_some, res_test, res_stop, uB_0, Bool.not_true, Bool.not_false, Bool.false_eq_true, if_false, if_true, beq_self_eq_true, bs_toList, hw', h5]

/-! what stays -/

theorem stays_loop (s0 s1 s2 : ByteArray) (l5 : List (List PV)) (B : List Cnt) (hB : okB B) (mB : mayB B = true) (h0 : B.length ≤ 1000000) (p : List Val → Bool) :
    lres rd_L10_QueryStays_5_7 [.l (B.map Cnt.e), .i 0, .s s0, .s s1, .s s2, .i i, .i j, .l l5, .l l6, .b b7, .l l8, .l ((keepB p B).map Cnt.e)] =
      some (1, [.l (B.map Cnt.e), .s s0, .s s1, .s s2, .i i, .i j, .l l5, .l l6, .b b7, .l l8, .l ((keepB p B).map Cnt.e)]) := by
  have h := loop_acc (keepB p B).length (rd := rd_L10_QueryStays_5_7) (fun q => [.l (B.map Cnt.e), .i (q : Nat), .s s0, .s s1, .s s2, .i i, .i j, .l l5, .l l6, .b b7, .l l8, .l ((keepB p B).map Cnt.e)])
    (some (1, [.l (B.map Cnt.e), .s s0, .s s1, .s s2, .i i, .i j, .l l5, .l l6, .b b7, .l l8, .l ((keepB p B).map Cnt.e)]))
    (lres_stop (by simp [rd_L10_QueryStays_5_7])) (by
    intro q hq
    have hlen := keep_len p B
    have hmem : (keepB p B)[q] ∈ B := (List.mem_filter.1 (List.getElem_mem hq)).1
    have h1 := RGet_res B h0 hB (keepB p B)[q].row
    rw [getB_eq mB, cnt_mem (mayC mB).1 hmem] at h1
    have hne := (mayC mB).2 _ hmem
    have row0 : cL (keepB p B)[q].e 0 = re (keepB p B)[q].row := rfl
    have row1 : cI (keepB p B)[q].e 1 = (keepB p B)[q].n := rfl
    have hlt : Int.toNat (q : Int) < ((keepB p B).map Cnt.e).length := by simpa using hq
    have hb : ((keepB p B)[q].n == 0) = false := by simpa using hne
    have hb2 : ((keepB p B)[q].n != (keepB p B)[q].n) = false := by simp
    simp only [rd_L10_QueryStays_5_7, rt_test, rt_next, rt_stop, el_map _ _ hq, ln_map, inR_cast, Int.ofNat_lt, hq, hlt, decide_true, if_true, row0, row1, h1, hb, hb2, ok_some', out_some, uI_0, beq_self_eq_true, Bool.false_eq_true, if_false, w64_succ (i := q) (by omega)])
  simp only [Int.natCast_zero] at h
  exact h

theorem keep_keep (p : List Val → Bool) (B : List Cnt) : keepB p (keepB p B) = keepB p B := by
  unfold keepB
  rw [List.filter_filter]
  simp

theorem where_true (B : List Cnt) (mB : mayB B = true) : whereV (trueV []) B = (B, 0) := by
  unfold whereV
  rw [if_pos mB]
  have h1 : (whereF (trueV []) B).2 = 0 := whereF_ok.2 fun c _ => rfl
  have h2 := whereF_eq h1
  have h3 : keepB (fun r => (trueV [] r).1) B = B := by
    unfold keepB
    exact List.filter_eq_self.2 fun c _ => rfl
  rw [h3] at h2
  exact Prod.ext h2 h1

theorem queryStays_res (hE : ∀ d ∈ E, d.ok) (B : List Cnt) (hB : okB B) :
    (m_L10_QueryStays [.s (bs n0), .s (bs n1), .s (bs w), .i i, .i j, .l (E.map Nd.e), .l l6, .b b7, .l l8, .l (B.map Cnt.e)]).res = some (0, [.b true]) := by
  have h1 := R05_Small_res B hB
  have h2 := R05_May_res B hB
  cases g1 : smallB B with
  | false => simp only [m_L10_QueryStays, h1, g1, ok_some', out_some, res_test, res_stop, uB_0, Bool.not_false, if_true, beq_self_eq_true]
  | true =>
  cases g2 : mayB B with
  | false => simp only [m_L10_QueryStays, h1, g1, h2, g2, ok_some', out_some, res_test, res_stop, uB_0, Bool.not_true, Bool.not_false, Bool.false_eq_true, if_false, if_true, beq_self_eq_true]
  | true =>
  by_cases g3 : (E.length : Int) > 120
  · simp only [m_L10_QueryStays, h1, g1, h2, g2, ok_some', out_some, res_test, res_stop, uB_0, Bool.not_true, Bool.not_false, Bool.false_eq_true, if_false, if_true, beq_self_eq_true, ln_map, g3, decide_true]
  · have hl := smallB_len g1
    have h3 := Where_res n0 n1 w i j E hE l6 b7 l8 B hB (by omega)
    rcases whereV_sub (f := trueV E) (B := B) with e | ⟨e1, _, e2⟩
    · by_cases hz : (whereV (trueV E) B).2 = 0
      · -- nothing stays
        have hb : ((0 : Int) != 0) = false := rfl
        have e2 : (whereV (trueV E) B).1 = keepB (fun r => (trueV E r).1) B := by
          unfold whereV at hz ⊢
          rw [if_pos g2] at hz ⊢
          exact whereF_eq hz
        have h4 := stays_loop i j l6 b7 l8 (bs n0) (bs n1) (bs w) (E.map Nd.e) B hB g2 (by omega) (fun r => (trueV E r).1)
        rw [← e2, e] at h4
        have h5 := Where_res n0 n1 w i j E hE l6 b7 l8 [] ⟨by simp, fun c hc => by cases hc⟩ (by simp)
        have e5 : whereV (trueV E) [] = ([], 0) := rfl
        rw [e5] at h5
        have h6 := Where_res [] [] [] 0 0 [] (fun d hd => by cases hd) [] false [] B hB (by omega)
        rw [where_true B g2] at h6
        have h7 := R05_Same_res (a := []) (b := []) ⟨by simp, fun c hc => by cases hc⟩ ⟨by simp, fun c hc => by cases hc⟩
        have h8 := R05_Same_res hB hB
        simp only [List.map_nil, ← bs_nil, decide_true] at h4 h5 h6 h7 h8
        simp only [m_L10_QueryStays, h1, g1, h2, g2, ok_some', out_some, res_test, res_stop, uB_0, Bool.not_true, Bool.not_false, Bool.false_eq_true, if_false, if_true, beq_self_eq_true, ln_map, g3, decide_false, h3, uI_0, uI_s, hz, hb, uL_0, uL_s, uS_0, uS_s, uB_s, e, List.map_nil, h4, ok01, h5, h6, h7, h8]
      · have hb : ((whereV (trueV E) B).2 != 0) = true := by simpa using hz
        simp only [m_L10_QueryStays, h1, g1, h2, g2, ok_some', out_some, res_test, res_stop, uB_0, Bool.not_true, Bool.not_false, Bool.false_eq_true, if_false, if_true, beq_self_eq_true, ln_map, g3, decide_false, h3, uI_0, uI_s, uL_0, uL_s, hb, e, List.map_nil, ln_nil]
    · have hb : ((0 : Int) != 0) = false := rfl
      have h4 := stays_loop i j l6 b7 l8 (bs n0) (bs n1) (bs w) (E.map Nd.e) B hB g2 (by omega) (fun r => (trueV E r).1)
      have okK : okB (keepB (fun r => (trueV E r).1) B) := keep_okB hB
      have h5 := Where_res n0 n1 w i j E hE l6 b7 l8 (keepB (fun r => (trueV E r).1) B) okK (by have := keep_len (fun r => (trueV E r).1) B; omega)
      have e5 : whereV (trueV E) (keepB (fun r => (trueV E r).1) B) = (keepB (fun r => (trueV E r).1) B, 0) := by
        have e0 : (whereF (trueV E) B).2 = 0 := by unfold whereV at e1; rw [if_pos g2] at e1; exact e1
        have k1 : (whereF (trueV E) (keepB (fun r => (trueV E r).1) B)).2 = 0 := whereF_ok.2 fun c hc => whereF_ok.1 e0 c (List.mem_filter.1 hc).1
        have k2 := whereF_eq k1
        rw [keep_keep] at k2
        unfold whereV
        rw [if_pos (keep_may g2)]
        exact Prod.ext k2 k1
      rw [e5] at h5
      have h6 := Where_res [] [] [] 0 0 [] (fun d hd => by cases hd) [] false [] B hB (by omega)
      rw [where_true B g2] at h6
      have h7 := R05_Same_res okK okK
      have h8 := R05_Same_res hB hB
      simp only [List.map_nil, ← bs_nil, decide_true] at h6 h7 h8
      simp only [m_L10_QueryStays, h1, g1, h2, g2, ok_some', out_some, res_test, res_stop, uB_0, Bool.not_true, Bool.not_false, Bool.false_eq_true, if_false, if_true, beq_self_eq_true, ln_map, g3, decide_false, h3, uI_0, uI_s, e1, hb, uL_0, uL_s, uS_0, uS_s, uB_s, e2, h4, ok01, h5, h6, h7, h8]

end
end Go.Proofs.Ytikmahlogjcieaa

set_option linter.unusedVariables false
set_option linter.unusedSimpArgs false
namespace Go.Proofs.Ytikmahlogjcieaa
open Go Go.Pu

theorem lin_point (r : List Val) (k : Int) (A : List Cnt) : lin (fun x => if x = r then k else 0) A = cnt A r * k := by
  induction A with
  | nil => simp [lin]
  | cons c A ih =>
    rw [lin, ih, cnt_cons, Int.add_mul]
    by_cases h : c.row = r
    · simp [h]
    · simp [h]

theorem lin_zero (A : List Cnt) : lin (fun _ => 0) A = 0 := by
  induction A with
  | nil => rfl
  | cons c A ih => simp [lin, ih]

/-- how often two rows, joined, are there -/
theorem pairs_point {i j : Int} {A B : List Cnt} (hA : ∀ a ∈ A, a.row.length = 2) (hB : ∀ b ∈ B, b.row.length = 2) {ra rb : List Val} (la : ra.length = 2) (lb : rb.length = 2) :
    cnt (pairsL i j A B) (ra ++ rb) = cnt A ra * (if meetR i j ra rb = true then cnt B rb else 0) := by
  rw [pairs_cnt, ← lin_point]
  refine lin_ext fun a ha => ?_
  by_cases h : a.row = ra
  · rw [if_pos h, h]
    by_cases hm : meetR i j ra rb = true
    · rw [if_pos hm]
      have : lin (gOne i j (ra ++ rb) ra) B = lin (fun x => if x = rb then 1 else 0) B := lin_ext fun b hb => by
        unfold gOne
        by_cases e : b.row = rb
        · rw [if_pos e, if_pos ⟨by rw [e]; exact hm, by rw [e]⟩]
        · rw [if_neg e, if_neg fun hh => e (List.append_cancel_left hh.2)]
      rw [this, lin_point, Int.mul_one]
    · rw [if_neg hm]
      have : lin (gOne i j (ra ++ rb) ra) B = lin (fun _ => 0) B := lin_ext fun b hb => by
        unfold gOne
        rw [if_neg]
        rintro ⟨h1, h2⟩
        rw [List.append_cancel_left h2] at h1
        exact hm h1
      rw [this, lin_zero]
  · rw [if_neg h]
    have : lin (gOne i j (ra ++ rb) a.row) B = lin (fun _ => 0) B := lin_ext fun b hb => by
      unfold gOne
      rw [if_neg]
      rintro ⟨h1, h2⟩
      exact h (List.append_inj_left h2 (by rw [hA a ha, la]))
    rw [this, lin_zero]

theorem low_cnt {A : List Cnt} (hl : lowS A = true) (hm : mayB A = true) (r : List Val) : (cnt A r).natAbs ≤ 1000 := by
  by_cases e : cnt A r = 0
  · rw [e]; decide
  · obtain ⟨c, hc, hr⟩ := cnt_ne e
    have h1 := cnt_mem (mayC hm).1 hc
    have h2 := (lowS_of hl).2.2 c hc
    rw [hr] at h1
    rw [h1]; omega

theorem mul_1000 {x y : Int} (hx : x.natAbs ≤ 1000) (hy : y.natAbs ≤ 1000) : (x * y).natAbs ≤ 1000000 := by
  rw [Int.natAbs_mul]
  exact Nat.mul_le_mul hx hy

section
variable (n0 n1 w : List UInt8) (i j : Int) (l6 : List (List PV)) (b7 : Bool) (l8 : List (List PV))

theorem meets_prod {i j : Int} {A B : List Cnt} {w : List UInt8} (hw : w ≠ []) (oA : lowS A = true) (oB : lowS B = true) (mA : mayB A = true) (mB : mayB B = true) (hA : ∀ a ∈ A, a.row.length = 2) (hB : ∀ b ∈ B, b.row.length = 2) :
    prodV w i j A B = (sumB (pairsL i j A B), 0) ∧ ∀ c ∈ sumB (pairsL i j A B), ∃ ra rb, c.row = ra ++ rb ∧ ra.length = 2 ∧ rb.length = 2 ∧ meetR i j ra rb = true ∧ c.n = cnt A ra * cnt B rb := by
  obtain ⟨a1, a2, a3⟩ := lowS_of oA
  obtain ⟨b1, b2, b3⟩ := lowS_of oB
  have hpair : ∀ c ∈ pairsL i j A B, pairOk c = true := by
    intro c hc
    obtain ⟨a, ha, b, hb, _, rfl⟩ := pairs_mem hc
    have h1 := a3 a ha
    have h2 := b3 b hb
    have h3 := mul_1000 (x := a.n) (y := b.n) (by omega) (by omega)
    refine pairOk_iff.2 ⟨?_, fitsN_iff.2 ?_⟩
    · show (a.row ++ b.row).length ≤ 40
      rw [List.length_append, hA a ha, hB b hb]; decide
    · show -1000000000 ≤ a.n * b.n ∧ a.n * b.n ≤ 1000000000
      omega
  have hm : manyOk (pairsL i j A B) = true := by
    unfold manyOk
    rw [Bool.and_eq_true, decide_eq_true_eq]
    refine ⟨?_, List.all_eq_true.2 hpair⟩
    have h1 := pairs_len i j A B
    have h2 : A.length * B.length ≤ 60 * 60 := Nat.mul_le_mul a1 b1
    omega
  have hrow : ∀ c ∈ sumB (pairsL i j A B), ∃ ra rb, c.row = ra ++ rb ∧ ra.length = 2 ∧ rb.length = 2 ∧ meetR i j ra rb = true ∧ c.n = cnt A ra * cnt B rb := by
    intro c hc
    obtain ⟨d, hd, hr⟩ := sumB_row hc
    have hn := sumB_n hc
    obtain ⟨a, ha, b, hb, hmm, rfl⟩ := pairs_mem hd
    have hr : a.row ++ b.row = c.row := hr
    refine ⟨a.row, b.row, hr.symm, hA a ha, hB b hb, hmm, ?_⟩
    rw [hn, ← hr, pairs_point hA hB (hA a ha) (hB b hb), if_pos hmm]
  have hmay : mayB (sumB (pairsL i j A B)) = true := by
    refine (sumB_may (pairs_row mA mB (List.all_eq_true.2 hpair))).2 fun c hc => ?_
    obtain ⟨ra, rb, _, _, _, _, hn⟩ := hrow c hc
    have := mul_1000 (low_cnt oA mA ra) (low_cnt oB mB rb)
    exact fitsN_iff.2 (by rw [hn]; omega)
  refine ⟨?_, hrow⟩
  unfold prodV
  rw [if_pos ⟨mA, mB⟩, if_neg hw, if_pos ⟨hm, hmay⟩]

theorem meets_guard (s0 s1 s2 : ByteArray) (l5 : List (List PV)) (A B : List Cnt) (h0 : A.length ≤ 1000000) (k0 : B.length ≤ 1000000) :
    ((∀ c ∈ A ++ B, c.row.length = 2) ∧ lres rd_L10_QueryMeets_4_4 [.l (A.map Cnt.e), .l (B.map Cnt.e), .i 0, .s s0, .s s1, .s s2, .i i, .i j, .l l5, .l l6, .b b7, .l l8] =
      some (1, [.l (A.map Cnt.e), .l (B.map Cnt.e), .s s0, .s s1, .s s2, .i i, .i j, .l l5, .l l6, .b b7, .l l8])) ∨
    lres rd_L10_QueryMeets_4_4 [.l (A.map Cnt.e), .l (B.map Cnt.e), .i 0, .s s0, .s s1, .s s2, .i i, .i j, .l l5, .l l6, .b b7, .l l8] = some (0, [.b true]) := by
  have hsum : w64 ((A.length : Int) + (B.length : Int)) = ((A.length + B.length : Nat) : Int) := by rw [w64_eq (by omega) (by omega)]; omega
  have h := loop_ix (A.length + B.length) (rd := rd_L10_QueryMeets_4_4) (fun t => [.l (A.map Cnt.e), .l (B.map Cnt.e), .i (t : Nat), .s s0, .s s1, .s s2, .i i, .i j, .l l5, .l l6, .b b7, .l l8])
    (fun t => decide (((A ++ B).getD t ⟨[], 0⟩).row.length = 2)) 0 1 (fun _ => [.b true]) [.l (A.map Cnt.e), .l (B.map Cnt.e), .s s0, .s s1, .s s2, .i i, .i j, .l l5, .l l6, .b b7, .l l8]
    (by
      have : ¬ ((A.length + B.length : Nat) : Int) < ((A.length + B.length : Nat) : Int) := by omega
      simp only [rd_L10_QueryMeets_4_4, rt_test, rt_stop, ln_map, hsum, this, decide_false, Bool.false_eq_true, if_false]) (by
    intro t ht _
    have c0 : (t : Int) < ((A.length + B.length : Nat) : Int) := by omega
    by_cases hA : t < A.length
    · have e0 : (A ++ B).getD t ⟨[], 0⟩ = A[t] := by rw [List.getD, List.getElem?_append_left hA, List.getElem?_eq_getElem hA]; rfl
      have c1 : (t : Int) < (A.length : Int) := by omega
      have c2 : ¬ (t : Int) ≥ (A.length : Int) := by omega
      have row0 : cL A[t].e 0 = re A[t].row := rfl
      have hl : ln (re A[t].row) = (A[t].row.length : Int) := ln_re _
      by_cases h2 : A[t].row.length = 2
      · have hb : (((2 : Nat) : Int) != 2) = false := rfl
        simp only [rd_L10_QueryMeets_4_4, rt_test, rt_next, rt_stop, el_map _ _ hA, ln_map, hsum, c0, c1, c2, inR_cast, Int.ofNat_lt, hA, decide_true, decide_false, if_true, row0, hl, hb, Bool.false_eq_true, if_false, e0, h2, w64_succ (i := t) (by omega)]
      · have hb : ((A[t].row.length : Int) != 2) = true := by rw [bne_iff_ne]; omega
        simp only [rd_L10_QueryMeets_4_4, rt_test, rt_next, rt_stop, el_map _ _ hA, ln_map, hsum, c0, c1, c2, inR_cast, Int.ofNat_lt, hA, decide_true, decide_false, if_true, row0, hl, hb, Bool.false_eq_true, if_false, e0, h2]
    · have hB : t - A.length < B.length := by omega
      have e0 : (A ++ B).getD t ⟨[], 0⟩ = B[t - A.length] := by rw [List.getD, List.getElem?_append_right (by omega), List.getElem?_eq_getElem hB]; rfl
      have c1 : ¬ (t : Int) < (A.length : Int) := by omega
      have c2 : (t : Int) ≥ (A.length : Int) := by omega
      have c3 : w64 ((t : Int) - (A.length : Int)) = ((t - A.length : Nat) : Int) := by rw [w64_eq (by omega) (by omega)]; omega
      have row0 : cL B[t - A.length].e 0 = re B[t - A.length].row := rfl
      have hl : ln (re B[t - A.length].row) = (B[t - A.length].row.length : Int) := ln_re _
      by_cases h2 : B[t - A.length].row.length = 2
      · have hb : (((2 : Nat) : Int) != 2) = false := rfl
        simp only [rd_L10_QueryMeets_4_4, rt_test, rt_next, rt_stop, c3, el_map _ _ hB, ln_map, hsum, c0, c1, c2, inR_cast, hB, decide_true, decide_false, if_true, row0, hl, hb, Bool.false_eq_true, if_false, e0, h2, w64_succ (i := t) (by omega)]
      · have hb : ((B[t - A.length].row.length : Int) != 2) = true := by rw [bne_iff_ne]; omega
        simp only [rd_L10_QueryMeets_4_4, rt_test, rt_next, rt_stop, c3, el_map _ _ hB, ln_map, hsum, c0, c1, c2, inR_cast, hB, decide_true, decide_false, if_true, row0, hl, hb, Bool.false_eq_true, if_false, e0, h2])
  simp only [Int.natCast_zero] at h
  rcases h with ⟨h1, h2⟩ | ⟨_, _, _, _, h2⟩
  · refine .inl ⟨fun c hc => ?_, h2⟩
    obtain ⟨t, ht, rfl⟩ := List.mem_iff_getElem.1 hc
    have := h1 t (by simpa using ht)
    rw [List.getD, List.getElem?_eq_getElem ht] at this
    simpa using this
  · exact .inr h2

theorem meets_loop (s0 s1 s2 : ByteArray) (e : Int) (l5 : List (List PV)) (A B P : List Cnt) (hA : okB A) (hB : okB B) (oA : lowS A = true) (oB : lowS B = true) (mA : mayB A = true) (mB : mayB B = true) (hl : P.length ≤ 1000000)
    (hP : ∀ c ∈ P, ∃ ra rb, c.row = ra ++ rb ∧ ra.length = 2 ∧ rb.length = 2 ∧ meetR i j ra rb = true ∧ c.n = cnt A ra * cnt B rb) :
    lres rd_L10_QueryMeets_4_10 [.l (A.map Cnt.e), .l (B.map Cnt.e), .i e, .i 0, .s s0, .s s1, .s s2, .i i, .i j, .l l5, .l l6, .b b7, .l l8, .l (P.map Cnt.e)] = some (1, [.i e]) := by
  have h := loop_acc P.length (rd := rd_L10_QueryMeets_4_10) (fun q => [.l (A.map Cnt.e), .l (B.map Cnt.e), .i e, .i (q : Nat), .s s0, .s s1, .s s2, .i i, .i j, .l l5, .l l6, .b b7, .l l8, .l (P.map Cnt.e)]) (some (1, [.i e]))
    (lres_stop (by simp [rd_L10_QueryMeets_4_10])) (by
    intro q hq
    obtain ⟨ra, rb, e1, e2, e3, e4, e5⟩ := hP _ (List.getElem_mem hq)
    have ha0 := (lowS_of oA).1
    have hb0 := (lowS_of oB).1
    have g1 := RGet_res A (by omega) hA ra
    have g2 := RGet_res B (by omega) hB rb
    rw [getB_eq mA] at g1
    rw [getB_eq mB] at g2
    have r1 := RAt_res ra i
    have r2 := RAt_res rb j
    unfold meetR at e4
    obtain ⟨x1, x2⟩ := of_decide_eq_true e4
    rw [← x1] at r2
    have row0 : cL P[q].e 0 = re ra ++ re rb := by show re P[q].row = _; rw [e1, re_app]
    have row1 : cI P[q].e 1 = cnt A ra * cnt B rb := e5
    have hlt : Int.toNat (q : Int) < (P.map Cnt.e).length := by simpa using hq
    have la : (re ra).length = 2 := by rw [re_len, e2]
    have lb : (re rb).length = 2 := by rw [re_len, e3]
    have hln : ln (re ra ++ re rb) = 4 := by unfold ln; rw [List.length_append, la, lb]; rfl
    have t1 : List.take 2 (re ra ++ re rb) = re ra := List.take_left' la
    have t2 : List.drop 2 (re ra ++ re rb) = re rb := List.drop_left' la
    have t3 : List.take 2 (re rb) = re rb := List.take_of_length_le (by omega)
    have hw : w64 (cnt A ra * cnt B rb) = cnt A ra * cnt B rb := by
      have := mul_1000 (low_cnt oA mA ra) (low_cnt oB mB rb)
      exact w64_eq (by omega) (by omega)
    have hk : ((atV ra i).k == 0) = false := by simpa using x2
    have hb2 : (cnt A ra * cnt B rb != cnt A ra * cnt B rb) = false := by simp
    have d1 : decide ((0 : Int) ≤ 0 ∧ (0 : Int) ≤ 2 ∧ (2 : Int) ≤ 4) = true := by decide
    have d2 : decide ((0 : Int) ≤ 2 ∧ (2 : Int) ≤ 4 ∧ (4 : Int) ≤ 4) = true := by decide
    have d3 : ((4 : Int) != 4) = false := rfl
    have d4 : Int.toNat 4 - 2 = 2 := rfl
    simp only [rd_L10_QueryMeets_4_10, rt_test, rt_next, rt_stop, el_map _ _ hq, ln_map, inR_cast, Int.ofNat_lt, hq, hlt, decide_true, if_true, row0, row1, hln, d1, d2, d3, d4, List.drop_zero, t1, t2, t3, r1, r2, ok_some', out_some, uI_0, uI_s, uS_0, uS_s, beq_self_eq_true, Bool.and_self, Bool.and_true, Bool.not_true, Bool.false_eq_true, if_false, hk, g1, g2, hw, hb2, w64_succ (i := q) (by omega)])
  simp only [Int.natCast_zero] at h
  exact h

theorem queryMeets_res (l5 : List (List PV)) (A B : List Cnt) (hA : okB A) (hB : okB B) :
    (m_L10_QueryMeets [.s (bs n0), .s (bs n1), .s (bs w), .i i, .i j, .l l5, .l l6, .b b7, .l l8, .l (A.map Cnt.e), .l (B.map Cnt.e)]).res = some (0, [.b true]) := by
  have h1 := Low_res A hA
  have h2 := Low_res B hB
  have h3 := R05_May_res A hA
  have h4 := R05_May_res B hB
  cases g1 : lowS A with
  | false => simp only [m_L10_QueryMeets, h1, g1, ok_some', out_some, res_test, res_stop, uB_0, Bool.not_false, if_true, beq_self_eq_true]
  | true =>
  cases g2 : lowS B with
  | false => simp only [m_L10_QueryMeets, h1, g1, h2, g2, ok_some', out_some, res_test, res_stop, uB_0, Bool.not_true, Bool.not_false, Bool.false_eq_true, if_false, if_true, beq_self_eq_true]
  | true =>
  by_cases hw : w = []
  · have hw' : (w == []) = true := by simpa using hw
    simp only [m_L10_QueryMeets, h1, g1, h2, g2, ok_some', out_some, res_test, res_stop, uB_0, Bool.not_true, Bool.not_false, Bool.false_eq_true, if_false, if_true, beq_self_eq_true, bs_toList, hw']
  · have hw' : (w == []) = false := by simpa using hw
    cases g3 : mayB A with
    | false => simp only [m_L10_QueryMeets, h1, g1, h2, g2, h3, g3, ok_some', out_some, res_test, res_stop, uB_0, Bool.not_true, Bool.not_false, Bool.false_eq_true, if_false, if_true, beq_self_eq_true, bs_toList, hw']
    | true =>
    cases g4 : mayB B with
    | false => simp only [m_L10_QueryMeets, h1, g1, h2, g2, h3, g3, h4, g4, ok_some', out_some, res_test, res_stop, uB_0, Bool.not_true, Bool.not_false, Bool.false_eq_true, if_false, if_true, beq_self_eq_true, bs_toList, hw']
    | true =>
    have a0 := (lowS_of g1).1
    have b0 := (lowS_of g2).1
    rcases meets_guard i j l6 b7 l8 (bs n0) (bs n1) (bs w) l5 A B (by omega) (by omega) with ⟨hall, h5⟩ | h5
    · obtain ⟨p1, p2⟩ := meets_prod (i := i) (j := j) hw g1 g2 g3 g4 (fun a ha => hall a (List.mem_append_left _ ha)) (fun b hb => hall b (List.mem_append_right _ hb))
      have h6 := Product_res n0 n1 w i j l5 l6 b7 l8 A B hA hB (by omega) (by omega)
      have hl : (sumB (pairsL i j A B)).length ≤ 1000000 := by
        have k1 := sumB_len (pairsL i j A B)
        have k2 := pairs_len i j A B
        have k3 : A.length * B.length ≤ 60 * 60 := Nat.mul_le_mul a0 b0
        omega
      rw [p1] at h6
      have h7 := meets_loop i j l6 b7 l8 (bs n0) (bs n1) (bs w) 0 l5 A B (sumB (pairsL i j A B)) hA hB g1 g2 g3 g4 hl p2
      simp only [m_L10_QueryMeets, h1, g1, h2, g2, h3, g3, h4, g4, ok_some', out_some, res_test, res_stop, uB_0, Bool.not_true, Bool.not_false, Bool.false_eq_true, if_false, if_true, beq_self_eq_true, bs_toList, hw', h5, ok01, uL_0, uL_s, uI_0, uI_s, uS_0, uS_s, uB_s, h6, h7]
    · simp only [m_L10_QueryMeets, h1, g1, h2, g2, h3, g3, h4, g4, ok_some', out_some, res_test, res_stop, uB_0, Bool.not_true, Bool.not_false, Bool.false_eq_true, if_false, if_true, beq_self_eq_true, bs_toList, hw', h5]

/-! picks -/

theorem sumN_abs (l : List Cnt) : (sumN l).natAbs ≤ absN l := by have := sum_abs l; omega

theorem sumN_take (l : List Cnt) {q : Nat} (h : q < l.length) : sumN (l.take (q + 1)) = sumN (l.take q) + l[q].n := by
  rw [take_one l h, sumN_lin, lin_app, ← sumN_lin]; simp [lin]

theorem picks_sum (m : Int) (s0 s1 s2 : ByteArray) (l5 : List (List PV)) (B : List Cnt) (hl : B.length ≤ 1000000) (hn : absN B ≤ 1000000000) :
    ((∀ c ∈ B, c.row.length = 2) ∧ lres rd_L10_QueryPicks_6_5 [.l (B.map Cnt.e), .i 0, .i m, .i 0, .s s0, .s s1, .s s2, .i i, .i j, .l l5, .l l6, .b b7, .l l8] =
      some (1, [.l (B.map Cnt.e), .i (sumN B), .i m, .s s0, .s s1, .s s2, .i i, .i j, .l l5, .l l6, .b b7, .l l8])) ∨
    lres rd_L10_QueryPicks_6_5 [.l (B.map Cnt.e), .i 0, .i m, .i 0, .s s0, .s s1, .s s2, .i i, .i j, .l l5, .l l6, .b b7, .l l8] = some (0, [.b true]) := by
  have h := loop_ix B.length (rd := rd_L10_QueryPicks_6_5) (fun q => [.l (B.map Cnt.e), .i (sumN (B.take q)), .i m, .i (q : Nat), .s s0, .s s1, .s s2, .i i, .i j, .l l5, .l l6, .b b7, .l l8])
    (fun q => decide ((B.getD q ⟨[], 0⟩).row.length = 2)) 0 1 (fun _ => [.b true]) [.l (B.map Cnt.e), .i (sumN B), .i m, .s s0, .s s1, .s s2, .i i, .i j, .l l5, .l l6, .b b7, .l l8]
    (by simp [rd_L10_QueryPicks_6_5]) (by
    intro q hq _
    have e0 : B.getD q ⟨[], 0⟩ = B[q] := by rw [List.getD, List.getElem?_eq_getElem hq]; rfl
    have row0 : cL B[q].e 0 = re B[q].row := rfl
    have row1 : cI B[q].e 1 = B[q].n := rfl
    have hln : ln (re B[q].row) = (B[q].row.length : Int) := ln_re _
    by_cases h2 : B[q].row.length = 2
    · have hb : (((2 : Nat) : Int) != 2) = false := rfl
      have hs : w64 (sumN (B.take q) + B[q].n) = sumN (B.take (q + 1)) := by
        have h3 := sumN_take B hq
        have h4 := sumN_abs (B.take (q + 1))
        have h5 := absN_take B (q + 1)
        rw [← h3]; exact w64_eq (by omega) (by omega)
      simp only [rd_L10_QueryPicks_6_5, rt_test, rt_next, rt_stop, el_map _ _ hq, ln_map, inR_cast, Int.ofNat_lt, hq, decide_true, if_true, row0, row1, hln, hb, Bool.false_eq_true, if_false, e0, h2, hs, w64_succ (i := q) (by omega)]
    · have hb : ((B[q].row.length : Int) != 2) = true := by rw [bne_iff_ne]; omega
      simp only [rd_L10_QueryPicks_6_5, rt_test, rt_next, rt_stop, el_map _ _ hq, ln_map, inR_cast, Int.ofNat_lt, hq, decide_true, if_true, row0, row1, hln, hb, decide_false, Bool.false_eq_true, if_false, e0, h2])
  simp only [Int.natCast_zero, List.take_zero] at h
  rw [show sumN [] = 0 from rfl] at h
  rcases h with ⟨h1, h2⟩ | ⟨_, _, _, _, h2⟩
  · refine .inl ⟨fun c hc => ?_, h2⟩
    obtain ⟨t, ht, rfl⟩ := List.mem_iff_getElem.1 hc
    have := h1 t ht
    rw [List.getD, List.getElem?_eq_getElem ht] at this
    simpa using this
  · exact .inr h2

theorem picks_total (m : Int) (s0 s1 s2 : ByteArray) (l5 A : List (List PV)) (B : List Cnt) (hl : B.length ≤ 1000000) (hn : absN B ≤ 1000000000) :
    lres rd_L10_QueryPicks_6_12 [.l A, .i m, .i 0, .i 0, .s s0, .s s1, .s s2, .i i, .i j, .l l5, .l l6, .b b7, .l l8, .l (B.map Cnt.e)] =
      some (0, [.l A, .i m, .i (sumN B), .s s0, .s s1, .s s2, .i i, .i j, .l l5, .l l6, .b b7, .l l8, .l (B.map Cnt.e)]) := by
  have h := loop_acc B.length (rd := rd_L10_QueryPicks_6_12) (fun q => [.l A, .i m, .i (sumN (B.take q)), .i (q : Nat), .s s0, .s s1, .s s2, .i i, .i j, .l l5, .l l6, .b b7, .l l8, .l (B.map Cnt.e)])
    (some (0, [.l A, .i m, .i (sumN B), .s s0, .s s1, .s s2, .i i, .i j, .l l5, .l l6, .b b7, .l l8, .l (B.map Cnt.e)]))
    (lres_stop (by simp [rd_L10_QueryPicks_6_12])) (by
    intro q hq
    have row1 : cI B[q].e 1 = B[q].n := rfl
    have hlt : Int.toNat (q : Int) < (B.map Cnt.e).length := by simpa using hq
    have hs : w64 (sumN (B.take q) + B[q].n) = sumN (B.take (q + 1)) := by
      have h3 := sumN_take B hq
      have h4 := sumN_abs (B.take (q + 1))
      have h5 := absN_take B (q + 1)
      rw [← h3]; exact w64_eq (by omega) (by omega)
    simp only [rd_L10_QueryPicks_6_12, rt_test, rt_next, rt_stop, el_map _ _ hq, ln_map, inR_cast, Int.ofNat_lt, hq, hlt, decide_true, if_true, row1, hs, w64_succ (i := q) (by omega)])
  simp only [Int.natCast_zero, List.take_zero] at h
  rw [show sumN [] = 0 from rfl] at h
  exact h

def col01 (x : Int) : Bool := decide (x = 0) || decide (x = 1)

theorem picks_cols (m n : Int) (s0 s1 s2 : ByteArray) (l5 A : List (List PV)) (P : List Int) (hl : P.length ≤ 1000000) (L : List (List PV)) :
    lres rd_L10_QueryPicks_6_17 [.l A, .i m, .i n, .b true, .i 0, .s s0, .s s1, .s s2, .i i, .i j, .l l5, .l (P.map kE), .b b7, .l l8, .l L] = some (0, [.l A, .i m, .i n, .b (P.all col01), .l L]) := by
  have h := loop_acc P.length (rd := rd_L10_QueryPicks_6_17) (fun q => [.l A, .i m, .i n, .b ((P.take q).all col01), .i (q : Nat), .s s0, .s s1, .s s2, .i i, .i j, .l l5, .l (P.map kE), .b b7, .l l8, .l L])
    (some (0, [.l A, .i m, .i n, .b (P.all col01), .l L]))
    (lres_stop (by simp [rd_L10_QueryPicks_6_17])) (by
    intro q hq
    have row0 : cI (kE P[q]) 0 = P[q] := rfl
    have ht : (P.take (q + 1)).all col01 = ((P.take q).all col01 && col01 P[q]) := by rw [take_one P hq, List.all_append]; simp
    cases ho : (P.take q).all col01 with
    | false =>
      simp only [rd_L10_QueryPicks_6_17, rt_test, rt_next, rt_stop, el_map _ _ hq, ln_map, inR_cast, Int.ofNat_lt, hq, decide_true, if_true, Bool.false_eq_true, if_false, ht, ho, Bool.false_and, w64_succ (i := q) (by omega)]
    | true =>
      by_cases h0 : P[q] = 0
      · have hb : ((0 : Int) == 0) = true := rfl
        have hc : col01 0 = true := rfl
        have row1 : cI (kE 0) 0 = 0 := rfl
        simp only [rd_L10_QueryPicks_6_17, rt_test, rt_next, rt_stop, el_map _ _ hq, ln_map, inR_cast, Int.ofNat_lt, hq, decide_true, if_true, row0, row1, h0, hb, hc, ht, ho, Bool.true_and, w64_succ (i := q) (by omega)]
      · have hb : (P[q] == 0) = false := by simpa using h0
        have hc : col01 P[q] = (P[q] == 1) := by
          unfold col01
          rw [decide_eq_false h0, Bool.false_or]; rfl
        simp only [rd_L10_QueryPicks_6_17, rt_test, rt_next, rt_stop, el_map _ _ hq, ln_map, inR_cast, Int.ofNat_lt, hq, decide_true, if_true, row0, hb, hc, Bool.false_eq_true, if_false, ht, ho, Bool.true_and, w64_succ (i := q) (by omega)])
  simp only [Int.natCast_zero, List.take_zero, List.all_nil] at h
  exact h

theorem pick_all {P : List Int} (hP : P.all col01 = true) (hl : P.length ≤ 40) : ∀ {B : List Cnt}, (∀ c ∈ B, c.row.length = 2) → sumN (pickL P B) = sumN B
  | [], _ => rfl
  | c :: B, h => by
    have hc := h c (List.mem_cons_self ..)
    have h1 : pickOk c.row P = true := List.all_eq_true.2 fun x hx => by
      have := List.all_eq_true.1 hP x hx
      simp only [col01, Bool.or_eq_true, decide_eq_true_eq] at this
      rw [decide_eq_true_eq, hc]
      rcases this with rfl | rfl <;> decide
    have h2 : (pickR c.row P).length ≤ 40 := by unfold pickR; rw [List.length_map]; exact hl
    have e : pickL P (c :: B) = [⟨pickR c.row P, c.n⟩] ++ pickL P B := by
      show pickC P c ++ pickL P B = _
      unfold pickC
      rw [if_pos ⟨h1, h2⟩]
    have ih := pick_all hP hl (B := B) fun d hd => h d (List.mem_cons_of_mem _ hd)
    rw [sumN_lin] at ih ⊢
    rw [e, lin_app, ih, sumN_lin, sumN_lin, lin]
    simp [lin]

theorem pick_bad {P : List Int} (hP : P.all col01 = false) : ∀ {B : List Cnt}, (∀ c ∈ B, c.row.length = 2) → pickL P B = []
  | [], _ => rfl
  | c :: B, h => by
    have hc := h c (List.mem_cons_self ..)
    have h1 : ¬ pickOk c.row P = true := fun h1 => by
      rw [Bool.eq_false_iff] at hP
      apply hP
      rw [List.all_eq_true]
      intro x hx
      have := of_decide_eq_true (List.all_eq_true.1 h1 x hx)
      rw [hc] at this
      simp only [col01, Bool.or_eq_true, decide_eq_true_eq]
      omega
    have ih := pick_bad hP (B := B) fun d hd => h d (List.mem_cons_of_mem _ hd)
    show pickC P c ++ pickL P B = []
    unfold pickC
    rw [if_neg fun hh => h1 hh.1, ih]; rfl

theorem pick_same : ∀ {B : List Cnt}, (∀ c ∈ B, c.row.length = 2) → pickL [0, 1] B = B
  | [], _ => rfl
  | c :: B, h => by
    have hc := h c (List.mem_cons_self ..)
    have ih := pick_same (B := B) fun d hd => h d (List.mem_cons_of_mem _ hd)
    obtain ⟨r, n⟩ := c
    match r, hc with
    | [x, y], _ =>
      show pickC [0, 1] ⟨[x, y], n⟩ ++ pickL [0, 1] B = _
      rw [ih]; rfl

theorem queryPicks_res (l5 : List (List PV)) (P : List Int) (b7 : Bool) (l8 : List (List PV)) (B : List Cnt) (hB : okB B) :
    (m_L10_QueryPicks [.s (bs n0), .s (bs n1), .s (bs w), .i i, .i j, .l l5, .l (P.map kE), .b b7, .l l8, .l (B.map Cnt.e)]).res = some (0, [.b true]) := by
  have h1 := Low_res B hB
  have h2 := R05_May_res B hB
  cases g1 : lowS B with
  | false => simp only [m_L10_QueryPicks, h1, g1, ok_some', out_some, res_test, res_stop, uB_0, Bool.not_false, if_true, beq_self_eq_true]
  | true =>
  cases g2 : mayB B with
  | false => simp only [m_L10_QueryPicks, h1, g1, h2, g2, ok_some', out_some, res_test, res_stop, uB_0, Bool.not_true, Bool.not_false, Bool.false_eq_true, if_false, if_true, beq_self_eq_true]
  | true =>
  by_cases g3 : (P.length : Int) > 40
  · simp only [m_L10_QueryPicks, h1, g1, h2, g2, ok_some', out_some, res_test, res_stop, uB_0, Bool.not_true, Bool.not_false, Bool.false_eq_true, if_false, if_true, beq_self_eq_true, ln_map, g3, decide_true]
  · obtain ⟨a1, a2, a3⟩ := lowS_of g1
    have hP : P.length ≤ 1000000 := by omega
    rcases picks_sum i j (P.map kE) b7 l8 0 (bs n0) (bs n1) (bs w) l5 B (by omega) (by omega) with ⟨hall, h3⟩ | h3
    · have h4 := PickB_res n0 n1 w i j l5 P hP b7 l8 B hB (by omega)
      have hv := pickV_eq (cs := P) g2 (by omega)
      have hlen := sumB_len (pickL P B)
      have hlen2 := pick_len P B
      have habs := absN_sum (pickL P B)
      have habs2 := pick_absN P B
      rw [hv] at h4
      have h5 := picks_total i j (P.map kE) b7 l8 (sumN B) (bs n0) (bs n1) (bs w) l5 (B.map Cnt.e) (sumB (pickL P B)) (by omega) (by omega)
      have h6 := picks_cols i j b7 l8 (sumN B) (sumN (sumB (pickL P B))) (bs n0) (bs n1) (bs w) l5 (B.map Cnt.e) P hP ((sumB (pickL P B)).map Cnt.e)
      have h7 := PickB_res [] [] [] 0 0 [] [0, 1] (by simp) false [] B hB (by omega)
      rw [pickV_eq g2 (by omega), pick_same hall, sumB_self (mayC g2)] at h7
      have e7 : [0, 1].map kE = [[pI 0], [pI 1]] := rfl
      rw [e7] at h7
      have h8 := R05_Same_res hB hB
      simp only [← bs_nil, decide_true] at h7 h8
      have hsum : sumN (sumB (pickL P B)) = sumN (pickL P B) := by rw [sumN_lin, lin_sum, ← sumN_lin]
      cases hc : P.all col01 with
      | false =>
        have hz : sumB (pickL P B) = [] := by rw [pick_bad hc hall]; rfl
        simp only [m_L10_QueryPicks, h1, g1, h2, g2, ok_some', out_some, res_test, res_stop, uB_0, uB_s, Bool.not_true, Bool.not_false, Bool.false_eq_true, if_false, if_true, beq_self_eq_true, ln_map, g3, decide_false, h3, ok01, uL_0, uL_s, uI_0, uI_s, uS_0, uS_s, h4, h5, h6, hc, hz, List.map_nil, ln_nil]
        simp only [hz, List.map_nil] at h5 h6
        simp only [h5, ok_some', out_some, beq_self_eq_true, if_true, uL_0, uL_s, uI_0, uI_s, uS_0, uS_s, uB_0, uB_s, h6, hc, Bool.not_false, ln_nil]
      | true =>
        have he : sumN (sumB (pickL P B)) = sumN B := by rw [hsum, pick_all hc (by omega) hall]
        rw [he] at h5 h6
        simp only [m_L10_QueryPicks, h1, g1, h2, g2, ok_some', out_some, res_test, res_stop, uB_0, uB_s, Bool.not_true, Bool.not_false, Bool.false_eq_true, if_false, if_true, beq_self_eq_true, ln_map, g3, decide_false, h3, ok01, uL_0, uL_s, uI_0, uI_s, uS_0, uS_s, h4, h5, h6, hc, h7, h8]
    · simp only [m_L10_QueryPicks, h1, g1, h2, g2, ok_some', out_some, res_test, res_stop, uB_0, Bool.not_true, Bool.not_false, Bool.false_eq_true, if_false, if_true, beq_self_eq_true, ln_map, g3, decide_false, h3]

end
end Go.Proofs.Ytikmahlogjcieaa

set_option linter.unusedVariables false
set_option linter.unusedSimpArgs false
namespace Go.Proofs.Ytikmahlogjcieaa
open Go Go.Pu

theorem nil_okB : okB [] := ⟨by simp, fun c hc => by cases hc⟩

theorem may_abs9 {b : List Cnt} (h : mayB b = true) (hl : b.length ≤ 400000) : absN b ≤ 400000000000000 := by
  have h1 := absN_le (b := b) (m := 1000000000) fun c hc => mayB_n h hc
  have h2 : b.length * 1000000000 ≤ 400000 * 1000000000 := Nat.mul_le_mul_right _ hl
  omega

theorem BothM_res {X Y : List Cnt} (hX : okB X) (hY : okB Y) (mX : mayB X = true) (mY : mayB Y = true) (lX : X.length ≤ 400000) (lY : Y.length ≤ 400000) :
    (m_R05_Both [.l (X.map Cnt.e), .l (Y.map Cnt.e)]).res = some (0, [.l ((sumB (X ++ Y)).map Cnt.e)]) ∧ okB (sumB (X ++ Y)) ∧ (sumB (X ++ Y)).length ≤ X.length + Y.length := by
  have a1 := may_abs9 mX lX
  have a2 := may_abs9 mY lY
  refine ⟨Both_res X Y hX hY (mayC mX) (by omega) (by omega), sumB_okB (app_ok hX hY (by omega)) (by rw [absN_app]; omega), ?_⟩
  have := sumB_len (X ++ Y)
  rw [List.length_append] at this
  exact this

theorem deltaV_len {w : List UInt8} {i j : Int} {A dA B dB : List Cnt} : (deltaV w i j A dA B dB).1.length ≤ A.length + 2 * dA.length + 30000 := by
  have l1 := prodV_len (w := w) (i := i) (j := j) (A := dA) (B := B)
  have l2 := prodV_len (w := w) (i := i) (j := j) (A := A) (B := dB)
  have l3 := prodV_len (w := w) (i := i) (j := j) (A := dA) (B := dB)
  unfold deltaV
  split
  · split
    · simp only; omega
    · split
      · simp
      · simp only
        split
        · have := sumB_len ((prodV w i j dA B).1 ++ (prodV w i j A dB).1 ++ (prodV w i j dA dB).1)
          simp only [List.length_append] at this ⊢
          omega
        · simp
  · simp

/-- joined rows of a change: all that is asked of them -/
theorem thenD {w : List UInt8} {i j : Int} {A dA B dB : List Cnt} {f : List Val → Bool × Int} (hA : okB A) (hdA : okB dA) (hB : okB B) (hdB : okB dB) (a0 : A.length ≤ 300) (a1 : dA.length ≤ 300) :
    okB (thenW f (deltaV w i j A dA B dB)).1 ∧ mayB (thenW f (deltaV w i j A dA B dB)).1 = true ∧ (thenW f (deltaV w i j A dA B dB)).1.length ≤ 40000 := by
  obtain ⟨d1, _⟩ := deltaV_okB (w := w) (i := i) (j := j) hA hdA hB hdB (by omega) (by omega)
  have d3 := deltaV_len (w := w) (i := i) (j := j) (A := A) (dA := dA) (B := B) (dB := dB)
  obtain ⟨t1, t2⟩ := thenW_okB (f := f) d1
  exact ⟨t1, thenW_may (deltaV_may ..), by omega⟩

def smallQ (A dA B dB : List Cnt) (n m : Nat) : Bool := lowS A && (lowS dA && (lowS B && (lowS dB && (decide (n ≤ 120) && decide (m ≤ 60)))))
def mayQ (A dA B dB : List Cnt) : Bool := mayB A && (mayB dA && (mayB B && mayB dB))

theorem small_res (s0 s1 s2 : ByteArray) (i j : Int) (E : List Nd) (P : List Int) (b7 : Bool) (l8 : List (List PV)) (A dA B dB : List Cnt) (hA : okB A) (hdA : okB dA) (hB : okB B) (hdB : okB dB) :
    (m_L13_small [.s s0, .s s1, .s s2, .i i, .i j, .l (E.map Nd.e), .l (P.map kE), .b b7, .l l8, .l (A.map Cnt.e), .l (dA.map Cnt.e), .l (B.map Cnt.e), .l (dB.map Cnt.e)]).res = some (0, [.b (smallQ A dA B dB E.length P.length)]) := by
  have h1 := Low_res A hA
  have h2 := Low_res dA hdA
  have h3 := Low_res B hB
  have h4 := Low_res dB hdB
  unfold smallQ
  cases g1 : lowS A with
  | false => simp only [m_L13_small, h1, g1, ok_some', out_some, res_test, res_stop, uB_0, Bool.false_eq_true, if_false, if_true, beq_self_eq_true, Bool.false_and]
  | true =>
  cases g2 : lowS dA with
  | false => simp only [m_L13_small, h1, g1, h2, g2, ok_some', out_some, res_test, res_stop, uB_0, Bool.false_eq_true, if_false, if_true, beq_self_eq_true, Bool.false_and, Bool.and_false]
  | true =>
  cases g3 : lowS B with
  | false => simp only [m_L13_small, h1, g1, h2, g2, h3, g3, ok_some', out_some, res_test, res_stop, uB_0, Bool.false_eq_true, if_false, if_true, beq_self_eq_true, Bool.false_and, Bool.and_false]
  | true =>
  cases g4 : lowS dB with
  | false => simp only [m_L13_small, h1, g1, h2, g2, h3, g3, h4, g4, ok_some', out_some, res_test, res_stop, uB_0, Bool.false_eq_true, if_false, if_true, beq_self_eq_true, Bool.false_and, Bool.and_false]
  | true =>
    have e2 : decide ((P.length : Int) ≤ 60) = decide (P.length ≤ 60) := by rw [decide_eq_decide]; omega
    by_cases g5 : E.length ≤ 120
    · have g5' : (E.length : Int) ≤ 120 := by omega
      simp only [m_L13_small, h1, g1, h2, g2, h3, g3, h4, g4, ok_some', out_some, res_test, res_stop, uB_0, if_true, beq_self_eq_true, Bool.true_and, ln_map, g5, g5', decide_true, e2]
    · have g5' : ¬ (E.length : Int) ≤ 120 := by omega
      simp only [m_L13_small, h1, g1, h2, g2, h3, g3, h4, g4, ok_some', out_some, res_test, res_stop, uB_0, if_true, beq_self_eq_true, Bool.true_and, ln_map, g5, g5', decide_false, Bool.false_eq_true, if_false, Bool.false_and]

theorem may_res (A dA B dB : List Cnt) (hA : okB A) (hdA : okB dA) (hB : okB B) (hdB : okB dB) :
    (m_L13_may [.l (A.map Cnt.e), .l (dA.map Cnt.e), .l (B.map Cnt.e), .l (dB.map Cnt.e)]).res = some (0, [.b (mayQ A dA B dB)]) := by
  have h1 := R05_May_res A hA
  have h2 := R05_May_res dA hdA
  have h3 := R05_May_res B hB
  have h4 := R05_May_res dB hdB
  unfold mayQ
  cases g1 : mayB A with
  | false => simp only [m_L13_may, h1, g1, ok_some', out_some, res_test, res_stop, uB_0, Bool.false_eq_true, if_false, if_true, beq_self_eq_true, Bool.false_and]
  | true =>
  cases g2 : mayB dA with
  | false => simp only [m_L13_may, h1, g1, h2, g2, ok_some', out_some, res_test, res_stop, uB_0, Bool.false_eq_true, if_false, if_true, beq_self_eq_true, Bool.false_and, Bool.and_false]
  | true =>
  cases g3 : mayB B with
  | false => simp only [m_L13_may, h1, g1, h2, g2, h3, g3, ok_some', out_some, res_test, res_stop, uB_0, Bool.false_eq_true, if_false, if_true, beq_self_eq_true, Bool.false_and, Bool.and_false]
  | true => simp only [m_L13_may, h1, g1, h2, g2, h3, g3, h4, ok_some', out_some, res_test, res_stop, uB_0, Bool.false_eq_true, if_false, if_true, beq_self_eq_true, Bool.true_and]

theorem smallQ_of {A dA B dB : List Cnt} {n m : Nat} (h : smallQ A dA B dB n m = true) : lowS A = true ∧ lowS dA = true ∧ lowS B = true ∧ lowS dB = true ∧ n ≤ 120 ∧ m ≤ 60 := by
  unfold smallQ at h
  simpa [and_assoc] using h
theorem mayQ_of {A dA B dB : List Cnt} (h : mayQ A dA B dB = true) : mayB A = true ∧ mayB dA = true ∧ mayB B = true ∧ mayB dB = true := by
  unfold mayQ at h
  simpa [and_assoc] using h

theorem low_both {A B : List Cnt} (oA : lowS A = true) (oB : lowS B = true) (mA : mayB A = true) (mB : mayB B = true) : mayB (sumB (A ++ B)) = true := both_may mA mB (by
  have h1 := (lowS_of oA).2.1
  have h2 := (lowS_of oB).2.1
  omega)

/-! what the laws say, as plain data -/

theorem pairs_nilR (i j : Int) (A : List Cnt) : pairsL i j A [] = [] := by
  induction A with
  | nil => rfl
  | cons a A ih => show pairs1 i j a [] ++ pairsL i j A [] = []; rw [ih]; rfl

theorem delta_none {w : List UInt8} {i j : Int} {A B : List Cnt} {f : List Val → Bool × Int} (mA : mayB A = true) (mB : mayB B = true) : thenW f (deltaV w i j A [] B []) = ([], 0) := by
  have hd : deltaV w i j A [] B [] = ([], 0) := by
    unfold deltaV
    rw [if_pos ⟨mA, mayB_nil, mB, mayB_nil⟩]
    by_cases hw : w = []
    · rw [if_pos hw]
    · have p1 : prodV w i j [] B = ([], 0) := prodV_none hw mayB_nil mB rfl
      have p2 : prodV w i j A [] = ([], 0) := prodV_none hw mA mayB_nil (pairs_nilR i j A)
      have p3 : prodV w i j [] [] = ([], 0) := prodV_none hw mayB_nil mayB_nil rfl
      rw [if_neg hw, p1, p2, p3]
      rfl
  rw [hd]; rfl

section
variable {w : List UInt8} {i j : Int} {f : List Val → Bool × Int} {A dA B dB C : List Cnt}

theorem dcnt (hd : mayB dA = true) (hm : mayB A = true ∧ mayB B = true ∧ mayB dB = true) (h : (deltaV w i j A dA B dB).2 = 0) (r : List Val) :
    cnt (deltaV w i j A dA B dB).1 r = if w = [] then cnt dA r else cnt (pairsL i j dA B) r + cnt (pairsL i j A dB) r + cnt (pairsL i j dA dB) r := by
  by_cases hw : w = []
  · rw [if_pos hw]
    unfold deltaV
    rw [if_pos ⟨hm.1, hd, hm.2.1, hm.2.2⟩, if_pos hw]
  · rw [if_neg hw]
    exact (deltaV_cnt hw h r).1

theorem delta_back (mA : mayB A = true) (mdA : mayB dA = true) (mB : mayB B = true) (mdB : mayB dB = true) (sA : mayB (sumB (A ++ dA)) = true) (sB : mayB (sumB (B ++ dB)) = true)
    (h1 : (thenW f (deltaV w i j A dA B dB)).2 = 0) (h2 : (thenW f (deltaV w i j (sumB (A ++ dA)) (negB dA) (sumB (B ++ dB)) (negB dB))).2 = 0) :
    sumB ((thenW f (deltaV w i j A dA B dB)).1 ++ (thenW f (deltaV w i j (sumB (A ++ dA)) (negB dA) (sumB (B ++ dB)) (negB dB))).1) = [] := by
  obtain ⟨a1, a2, _⟩ := thenW_ok (deltaV_may ..) h1
  obtain ⟨b1, b2, _⟩ := thenW_ok (deltaV_may ..) h2
  rw [a2, b2]
  have : ([] : List Cnt) = sumB [] := rfl
  rw [this]
  refine sumB_congr fun r => ?_
  rw [cnt_app, keep_cnt, keep_cnt, dcnt mdA ⟨mA, mB, mdB⟩ a1, dcnt (neg_may mdA) ⟨sA, sB, neg_may mdB⟩ b1]
  have hz : cnt ([] : List Cnt) r = 0 := rfl
  rw [hz]
  split
  · split
    · rw [cnt_neg]; omega
    · have e : ∀ X Y : List Cnt, (∀ X', (∀ r, cnt X r = cnt X' r) → cnt (pairsL i j X Y) r = cnt (pairsL i j X' Y) r) := fun X Y X' hx => pairs_congr i j hx (fun _ => rfl) r
      have e' : ∀ X Y : List Cnt, (∀ Y', (∀ r, cnt Y r = cnt Y' r) → cnt (pairsL i j X Y) r = cnt (pairsL i j X Y') r) := fun X Y Y' hy => pairs_congr i j (fun _ => rfl) hy r
      rw [e' (negB dA) (sumB (B ++ dB)) (B ++ dB) (fun r => sumB_cnt _ r), e (sumB (A ++ dA)) (negB dB) (A ++ dA) (fun r => sumB_cnt _ r), pairs_addR, pairs_addL]
      simp only [pairs_negL, pairs_negR]
      omega
  · rfl

theorem delta_twice (mA : mayB A = true) (mdA : mayB dA = true) (mB : mayB B = true) (mC : mayB C = true) (sA : mayB (sumB (A ++ dA)) = true) (sC : mayB (sumB (dA ++ C)) = true)
    (h1 : (thenW f (deltaV w i j A dA B [])).2 = 0) (h2 : (thenW f (deltaV w i j (sumB (A ++ dA)) C B [])).2 = 0) (h3 : (thenW f (deltaV w i j A (sumB (dA ++ C)) B [])).2 = 0) :
    sumB ((thenW f (deltaV w i j A dA B [])).1 ++ (thenW f (deltaV w i j (sumB (A ++ dA)) C B [])).1) = (thenW f (deltaV w i j A (sumB (dA ++ C)) B [])).1 := by
  obtain ⟨a1, a2, _⟩ := thenW_ok (deltaV_may ..) h1
  obtain ⟨b1, b2, _⟩ := thenW_ok (deltaV_may ..) h2
  obtain ⟨c1, c2, _⟩ := thenW_ok (deltaV_may ..) h3
  rw [a2, b2, c2]
  refine (both_eq (keep_canon (mayC (deltaV_may ..))) fun r => ?_).symm
  rw [keep_cnt, keep_cnt, keep_cnt, dcnt mdA ⟨mA, mB, mayB_nil⟩ a1, dcnt mC ⟨sA, mB, mayB_nil⟩ b1, dcnt sC ⟨mA, mB, mayB_nil⟩ c1]
  split
  · split
    · rw [sumB_cnt, cnt_app]
    · rw [pairs_congr i j (A := sumB (dA ++ C)) (A' := dA ++ C) (B := B) (B' := B) (fun r => sumB_cnt _ r) (fun _ => rfl), pairs_addL]
      simp only [pairs_nilR, cnt_nil]
      omega
  · rfl
end

section
variable (n0 n1 w : List UInt8) (i j : Int) (E : List Nd) (hE : ∀ d ∈ E, d.ok) (P : List Int) (b7 : Bool) (l8 : List (List PV)) (A dA B dB : List Cnt) (hA : okB A) (hdA : okB dA) (hB : okB B) (hdB : okB dB)
include hE hA hdA hB hdB

theorem deltaNothing_res : (m_L13_DeltaNothing [.s (bs n0), .s (bs n1), .s (bs w), .i i, .i j, .l (E.map Nd.e), .l (P.map kE), .b b7, .l l8, .l (A.map Cnt.e), .l (dA.map Cnt.e), .l (B.map Cnt.e), .l (dB.map Cnt.e)]).res = some (0, [.b true]) := by
  have h1 := small_res (bs n0) (bs n1) (bs w) i j E P b7 l8 A dA B dB hA hdA hB hdB
  have h2 := may_res A dA B dB hA hdA hB hdB
  cases g1 : smallQ A dA B dB E.length P.length with
  | false => simp only [m_L13_DeltaNothing, h1, g1, ok_some', out_some, res_test, res_stop, uB_0, Bool.not_false, if_true, beq_self_eq_true]
  | true =>
  cases g2 : mayQ A dA B dB with
  | false => simp only [m_L13_DeltaNothing, h1, g1, h2, g2, ok_some', out_some, res_test, res_stop, uB_0, Bool.not_true, Bool.not_false, Bool.false_eq_true, if_false, if_true, beq_self_eq_true]
  | true =>
    obtain ⟨o1, o2, o3, o4, _, _⟩ := smallQ_of g1
    obtain ⟨m1, m2, m3, m4⟩ := mayQ_of g2
    have k1 := (lowS_of o1).1
    have k2 := (lowS_of o2).1
    have k3 := (lowS_of o3).1
    have k4 := (lowS_of o4).1
    have h3 := Joined_res n0 n1 w i j E hE (P.map kE) b7 l8 A [] B [] hA nil_okB hB nil_okB (by omega) (by simp) (by omega) (by simp)
    rw [delta_none m1 m3] at h3
    simp only [List.map_nil] at h3
    have h4 := Joined_res n0 n1 w i j E hE (P.map kE) b7 l8 A dA B dB hA hdA hB hdB (by omega) (by omega) (by omega) (by omega)
    obtain ⟨h5, q5, l5⟩ := BothM_res hA hdA m1 m2 (by omega) (by omega)
    obtain ⟨h6, q6, l6⟩ := BothM_res hB hdB m3 m4 (by omega) (by omega)
    have h7 := RNeg_res dA (by omega) hdA
    have h8 := RNeg_res dB (by omega) hdB
    have e7 : turnB dA = negB dA := by unfold turnB; rw [if_pos m2]
    have e8 : turnB dB = negB dB := by unfold turnB; rw [if_pos m4]
    rw [e7] at h7
    rw [e8] at h8
    have q7 : okB (negB dA) := by rw [← e7]; exact turnB_ok hdA
    have q8 : okB (negB dB) := by rw [← e8]; exact turnB_ok hdB
    have l7 : (negB dA).length = dA.length := by unfold negB; rw [List.length_map]
    have l8' : (negB dB).length = dB.length := by unfold negB; rw [List.length_map]
    have s1 := low_both o1 o2 m1 m2
    have s2 := low_both o3 o4 m3 m4
    have h9 := Joined_res n0 n1 w i j E hE (P.map kE) b7 l8 (sumB (A ++ dA)) (negB dA) (sumB (B ++ dB)) (negB dB) q5 q7 q6 q8 (by omega) (by omega) (by omega) (by omega)
    obtain ⟨u1, u2, u3⟩ := thenD (w := w) (i := i) (j := j) (f := trueV E) hA hdA hB hdB (by omega) (by omega)
    obtain ⟨v1, v2, v3⟩ := thenD (w := w) (i := i) (j := j) (f := trueV E) q5 q7 q6 q8 (by omega) (by omega)
    obtain ⟨h10, _, _⟩ := BothM_res u1 v1 u2 v2 (by omega) (by omega)
    have b0 : ((0 : Int) != 0) = false := rfl
    by_cases f1 : (thenW (trueV E) (deltaV w i j A dA B dB)).2 = 0
    · by_cases f2 : (thenW (trueV E) (deltaV w i j (sumB (A ++ dA)) (negB dA) (sumB (B ++ dB)) (negB dB))).2 = 0
      · rw [delta_back m1 m2 m3 m4 s1 s2 f1 f2] at h10
        simp only [m_L13_DeltaNothing, h1, g1, h2, g2, ok_some', out_some, res_test, res_stop, uB_0, Bool.not_true, Bool.not_false, Bool.false_eq_true, if_false, if_true, beq_self_eq_true, h3, uI_0, uI_s, uL_0, uL_s, b0, ln_nil, h4, h5, h6, h7, h8, h9, f1, f2, h10, List.map_nil]
      · have b2 : ((thenW (trueV E) (deltaV w i j (sumB (A ++ dA)) (negB dA) (sumB (B ++ dB)) (negB dB))).2 != 0) = true := by simpa using f2
        simp only [m_L13_DeltaNothing, h1, g1, h2, g2, ok_some', out_some, res_test, res_stop, uB_0, Bool.not_true, Bool.not_false, Bool.false_eq_true, if_false, if_true, beq_self_eq_true, h3, uI_0, uI_s, uL_0, uL_s, b0, ln_nil, h4, h5, h6, h7, h8, h9, f1, b2]
    · have b1 : ((thenW (trueV E) (deltaV w i j A dA B dB)).2 != 0) = true := by simpa using f1
      simp only [m_L13_DeltaNothing, h1, g1, h2, g2, ok_some', out_some, res_test, res_stop, uB_0, Bool.not_true, Bool.not_false, Bool.false_eq_true, if_false, if_true, beq_self_eq_true, h3, uI_0, uI_s, uL_0, uL_s, b0, ln_nil, h4, h5, h6, h7, h8, h9, b1]

theorem deltaTwice_res (C : List Cnt) (hC : okB C) : (m_L13_DeltaTwice [.s (bs n0), .s (bs n1), .s (bs w), .i i, .i j, .l (E.map Nd.e), .l (P.map kE), .b b7, .l l8, .l (A.map Cnt.e), .l (dA.map Cnt.e), .l (B.map Cnt.e), .l (dB.map Cnt.e), .l (C.map Cnt.e)]).res = some (0, [.b true]) := by
  have h1 := small_res (bs n0) (bs n1) (bs w) i j E P b7 l8 A dA B dB hA hdA hB hdB
  have h2 := may_res A dA B dB hA hdA hB hdB
  have h3 := Low_res C hC
  have h4 := R05_May_res C hC
  cases g1 : smallQ A dA B dB E.length P.length with
  | false => simp only [m_L13_DeltaTwice, h1, g1, ok_some', out_some, res_test, res_stop, uB_0, Bool.not_false, if_true, beq_self_eq_true]
  | true =>
  cases g2 : mayQ A dA B dB with
  | false => simp only [m_L13_DeltaTwice, h1, g1, h2, g2, ok_some', out_some, res_test, res_stop, uB_0, Bool.not_true, Bool.not_false, Bool.false_eq_true, if_false, if_true, beq_self_eq_true]
  | true =>
  cases g3 : lowS C with
  | false => simp only [m_L13_DeltaTwice, h1, g1, h2, g2, h3, g3, ok_some', out_some, res_test, res_stop, uB_0, Bool.not_true, Bool.not_false, Bool.false_eq_true, if_false, if_true, beq_self_eq_true]
  | true =>
  cases g4 : mayB C with
  | false => simp only [m_L13_DeltaTwice, h1, g1, h2, g2, h3, g3, h4, g4, ok_some', out_some, res_test, res_stop, uB_0, Bool.not_true, Bool.not_false, Bool.false_eq_true, if_false, if_true, beq_self_eq_true]
  | true =>
    obtain ⟨o1, o2, o3, o4, _, _⟩ := smallQ_of g1
    obtain ⟨m1, m2, m3, m4⟩ := mayQ_of g2
    have k1 := (lowS_of o1).1
    have k2 := (lowS_of o2).1
    have k3 := (lowS_of o3).1
    have k5 := (lowS_of g3).1
    obtain ⟨h5, q5, l5⟩ := BothM_res hA hdA m1 m2 (by omega) (by omega)
    obtain ⟨h6, q6, l6⟩ := BothM_res hdA hC m2 g4 (by omega) (by omega)
    have s1 := low_both o1 o2 m1 m2
    have s2 := low_both o2 g3 m2 g4
    have h7 := Joined_res n0 n1 w i j E hE (P.map kE) b7 l8 A dA B [] hA hdA hB nil_okB (by omega) (by omega) (by omega) (by simp)
    have h8 := Joined_res n0 n1 w i j E hE (P.map kE) b7 l8 (sumB (A ++ dA)) C B [] q5 hC hB nil_okB (by omega) (by omega) (by omega) (by simp)
    have h9 := Joined_res n0 n1 w i j E hE (P.map kE) b7 l8 A (sumB (dA ++ C)) B [] hA q6 hB nil_okB (by omega) (by omega) (by omega) (by simp)
    simp only [List.map_nil] at h7 h8 h9
    obtain ⟨u1, u2, u3⟩ := thenD (w := w) (i := i) (j := j) (f := trueV E) hA hdA hB nil_okB (by omega) (by omega)
    obtain ⟨v1, v2, v3⟩ := thenD (w := w) (i := i) (j := j) (f := trueV E) q5 hC hB nil_okB (by omega) (by omega)
    obtain ⟨x1, x2, x3⟩ := thenD (w := w) (i := i) (j := j) (f := trueV E) hA q6 hB nil_okB (by omega) (by omega)
    obtain ⟨h10, q10, _⟩ := BothM_res u1 v1 u2 v2 (by omega) (by omega)
    have h11 := R05_Same_res q10 x1
    have b0 : ((0 : Int) != 0) = false := rfl
    by_cases f1 : (thenW (trueV E) (deltaV w i j A dA B [])).2 = 0
    · by_cases f2 : (thenW (trueV E) (deltaV w i j (sumB (A ++ dA)) C B [])).2 = 0
      · by_cases f3 : (thenW (trueV E) (deltaV w i j A (sumB (dA ++ C)) B [])).2 = 0
        · have e := delta_twice m1 m2 m3 g4 s1 s2 f1 f2 f3
          simp only [m_L13_DeltaTwice, h1, g1, h2, g2, h3, g3, h4, g4, ok_some', out_some, res_test, res_stop, uB_0, Bool.not_true, Bool.not_false, Bool.false_eq_true, if_false, if_true, beq_self_eq_true, uI_0, uI_s, uL_0, uL_s, b0, h5, h6, h7, h8, h9, f1, f2, f3, h10, h11, decide_eq_true e]
        · have b3 : ((thenW (trueV E) (deltaV w i j A (sumB (dA ++ C)) B [])).2 != 0) = true := by simpa using f3
          simp only [m_L13_DeltaTwice, h1, g1, h2, g2, h3, g3, h4, g4, ok_some', out_some, res_test, res_stop, uB_0, Bool.not_true, Bool.not_false, Bool.false_eq_true, if_false, if_true, beq_self_eq_true, uI_0, uI_s, uL_0, uL_s, b0, h5, h6, h7, h8, h9, f1, f2, b3]
      · have b2 : ((thenW (trueV E) (deltaV w i j (sumB (A ++ dA)) C B [])).2 != 0) = true := by simpa using f2
        simp only [m_L13_DeltaTwice, h1, g1, h2, g2, h3, g3, h4, g4, ok_some', out_some, res_test, res_stop, uB_0, Bool.not_true, Bool.not_false, Bool.false_eq_true, if_false, if_true, beq_self_eq_true, uI_0, uI_s, uL_0, uL_s, b0, h5, h6, h7, h8, h9, f1, b2]
    · have b1 : ((thenW (trueV E) (deltaV w i j A dA B [])).2 != 0) = true := by simpa using f1
      simp only [m_L13_DeltaTwice, h1, g1, h2, g2, h3, g3, h4, g4, ok_some', out_some, res_test, res_stop, uB_0, Bool.not_true, Bool.not_false, Bool.false_eq_true, if_false, if_true, beq_self_eq_true, uI_0, uI_s, uL_0, uL_s, b0, h5, h6, h7, h8, h9, b1]

end
end Go.Proofs.Ytikmahlogjcieaa

set_option linter.unusedVariables false
set_option linter.unusedSimpArgs false
namespace Go.Proofs.Ytikmahlogjcieaa
open Go Go.Pu

theorem gd_ints {x : PV} (h : Gd Try.prog (.sl 3) x) : ∃ l : List Int, x = .lst 3 (l.map kE) ∧ l.length ≤ 140737488355328 := by
  obtain ⟨l, e, h1, _⟩ := gd_listC (f := kE) (p := fun _ => True) (ks := [.int .i64]) (b := 8) (by kernel_rfl) (by kernel_rfl) (by decide) (fun e he => by
    obtain ⟨hl, hg⟩ := gds_cells he
    match e, hl, hg with
    | [a], _, hg =>
      obtain ⟨n, rfl, hn⟩ := gd_int (hg 0 (by decide))
      exact ⟨n, rfl, trivial⟩) h
  exact ⟨l, e, h1⟩

theorem gd_boolV {x : PV} (h : Gd Try.prog .bool x) : ∃ b, x = pB b := by
  cases h with
  | bool b => exact ⟨b, rfl⟩

/-- a view's cells -/
def Vw.e (v : Vw) : List PV := [pS (bs v.n0), pS (bs v.n1), pS (bs v.w), pI v.i, pI v.j, .lst 63 (v.wh.map Nd.e), .lst 3 (v.pk.map kE), pB v.g, .lst 165 v.ag]
def Vw.us (v : Vw) : List U := [.s (bs v.n0), .s (bs v.n1), .s (bs v.w), .i v.i, .i v.j, .l (v.wh.map Nd.e), .l (v.pk.map kE), .b v.g, .l v.ag]

set_option maxRecDepth 100000 in
theorem arg_view {x : PV} (h : ArgGd Try.prog 28 x) : ∃ v : Vw, x = .agg v.e ∧ v.ok := by
  have e : ArgGd Try.prog 28 x = ∃ xs, x = .agg xs ∧ Gds Try.prog [.str, .str, .str, .int .i64, .int .i64, .sl 63, .sl 3, .bool, .sl 165] xs := by kernel_rfl
  rw [e] at h
  obtain ⟨xs, rfl, hg⟩ := h
  obtain ⟨hl, hg⟩ := gds_cells hg
  match xs, hl, hg with
  | [a, b, c, d, f, g, k, m, n], _, hg =>
    obtain ⟨n0, rfl, _⟩ := gd_str (hg 0 (by decide))
    obtain ⟨n1, rfl, _⟩ := gd_str (hg 1 (by decide))
    obtain ⟨w, rfl, _⟩ := gd_str (hg 2 (by decide))
    obtain ⟨i, rfl, _⟩ := gd_int (hg 3 (by decide))
    obtain ⟨j, rfl, _⟩ := gd_int (hg 4 (by decide))
    obtain ⟨E, rfl, e1, e2⟩ := gd_nodes (hg 5 (by decide))
    obtain ⟨P, rfl, p1⟩ := gd_ints (hg 6 (by decide))
    obtain ⟨z, rfl⟩ := gd_boolV (hg 7 (by decide))
    obtain ⟨ag, rfl, _, _⟩ := gd_lst (hg 8 (by decide))
    exact ⟨⟨n0, n1, w, i, j, E, P, z, ag⟩, rfl, e2, e1, p1⟩

set_option maxRecDepth 100000 in
theorem arg_bagQ {x : PV} (h : ArgGd Try.prog 30 x) : ∃ b : List Cnt, x = .lst 46 (b.map Cnt.e) ∧ okB b := by
  have e : ArgGd Try.prog 30 x = Gd Try.prog (.sl 46) x := by kernel_rfl
  rw [e] at h
  obtain ⟨l, e, h1, h2⟩ := gd_bag h
  exact ⟨l, e, h1, h2⟩

set_option maxRecDepth 100000 in
theorem arg_four {x : PV} (h : ArgGd Try.prog 54 x) : ∃ A B C D : List Cnt, x = .agg [.lst 46 (A.map Cnt.e), .lst 46 (B.map Cnt.e), .lst 46 (C.map Cnt.e), .lst 46 (D.map Cnt.e)] ∧ okB A ∧ okB B ∧ okB C ∧ okB D := by
  have e : ArgGd Try.prog 54 x = ∃ xs, x = .agg xs ∧ Gds Try.prog [.sl 46, .sl 46, .sl 46, .sl 46] xs := by kernel_rfl
  rw [e] at h
  obtain ⟨xs, rfl, hg⟩ := h
  obtain ⟨hl, hg⟩ := gds_cells hg
  match xs, hl, hg with
  | [a, b, c, d], _, hg =>
    obtain ⟨A, rfl, a1, a2⟩ := gd_bag (hg 0 (by decide))
    obtain ⟨B, rfl, b1, b2⟩ := gd_bag (hg 1 (by decide))
    obtain ⟨C, rfl, c1, c2⟩ := gd_bag (hg 2 (by decide))
    obtain ⟨D, rfl, d1, d2⟩ := gd_bag (hg 3 (by decide))
    exact ⟨A, B, C, D, rfl, ⟨a1, a2⟩, ⟨b1, b2⟩, ⟨c1, c2⟩, ⟨d1, d2⟩⟩

end Go.Proofs.Ytikmahlogjcieaa
