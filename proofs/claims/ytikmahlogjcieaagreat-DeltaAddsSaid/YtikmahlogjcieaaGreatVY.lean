/- Texts of this seat, one behind the other. -/
import Derived.Test.YtikmahlogjcieaaGreatVX
import Derived.Test.YtikmahlogjcieaaGreatVZ
import Derived.Test.YtikmahlogjcieaaGreatGY
set_option linter.unusedVariables false
set_option linter.unusedSimpArgs false
namespace Go.Proofs.YtikmahlogjcieaaGreat
open Go Go.Pu

def lin (g : List Val → Int) : List Cnt → Int
  | [] => 0
  | c :: l => c.n * g c.row + lin g l

theorem lin_app (g : List Val → Int) (a b : List Cnt) : lin g (a ++ b) = lin g a + lin g b := by
  induction a with
  | nil => simp [lin]
  | cons c a ih => simp only [List.cons_append, lin, ih]; omega

theorem lin_one (g : List Val → Int) (r : List Val) (n : Int) : lin g (one1 r n) = n * g r := by
  unfold one1
  split
  · simp [lin]
  · rename_i h
    have : n = 0 := by simpa using h
    subst this; simp [lin]

theorem lin_addC (g : List Val → Int) : ∀ (b : List Cnt) (r : List Val) (n : Int), lin g (addC b r n) = lin g b + n * g r
  | [], r, n => by simp [addC, lin_one, lin]
  | c :: b, r, n => by
    rw [addC]
    split
    · simp only [lin, lin_addC g b r n]; omega
    · split
      · rename_i h
        have e := (cR.zero _ _).1 h
        rw [lin_app, lin_one, lin, e, Int.add_mul]; omega
      · rw [lin_app, lin_one]; omega

theorem lin_fold (g : List Val → Int) : ∀ (l b : List Cnt), lin g (l.foldl (fun b c => addC b c.row c.n) b) = lin g b + lin g l
  | [], b => by simp [lin]
  | c :: l, b => by rw [List.foldl_cons, lin_fold g l, lin_addC, lin]; omega

theorem lin_sum (g : List Val → Int) (l : List Cnt) : lin g (sumB l) = lin g l := by
  have := lin_fold g l []
  rw [show lin g [] = 0 from rfl, Int.zero_add] at this
  exact this

theorem lin_congr (g : List Val → Int) {a b : List Cnt} (h : ∀ r, cnt a r = cnt b r) : lin g a = lin g b := by
  rw [← lin_sum g a, ← lin_sum g b, sumB_congr h]

theorem lin_add (g f : List Val → Int) (a : List Cnt) : lin (fun r => g r + f r) a = lin g a + lin f a := by
  induction a with
  | nil => rfl
  | cons c a ih => simp only [lin, ih, Int.mul_add]; omega

theorem lin_ext {g f : List Val → Int} {a : List Cnt} (h : ∀ c ∈ a, g c.row = f c.row) : lin g a = lin f a := by
  induction a with
  | nil => rfl
  | cons c a ih => simp only [lin]; rw [h c (List.mem_cons_self ..), ih fun d hd => h d (List.mem_cons_of_mem _ hd)]

/-! products -/

def atV (r : List Val) (n : Int) : Val := if 0 ≤ n ∧ n < r.length then r.getD n.toNat nul else nul
def meetR (i j : Int) (a b : List Val) : Bool := decide (atV a i = atV b j ∧ (atV a i).k ≠ 0)
def pairC (a b : Cnt) : Cnt := ⟨a.row ++ b.row, a.n * b.n⟩
def pairs1 (i j : Int) (a : Cnt) (B : List Cnt) : List Cnt := (B.filter fun b => meetR i j a.row b.row).map (pairC a)
def pairsL (i j : Int) (A B : List Cnt) : List Cnt := A.flatMap fun a => pairs1 i j a B

def gOne (i j : Int) (r a b : List Val) : Int := if meetR i j a b = true ∧ a ++ b = r then 1 else 0

theorem pairs1_cnt (i j : Int) (r : List Val) (a : Cnt) (B : List Cnt) : cnt (pairs1 i j a B) r = a.n * lin (gOne i j r a.row) B := by
  induction B with
  | nil => simp [pairs1, lin]
  | cons b B ih =>
    have e : pairs1 i j a (b :: B) = (if meetR i j a.row b.row = true then [pairC a b] else []) ++ pairs1 i j a B := by
      unfold pairs1
      rw [List.filter_cons]
      split <;> simp
    rw [e, cnt_app, ih, lin, Int.mul_add]
    congr 1
    unfold gOne
    by_cases h1 : meetR i j a.row b.row = true
    · by_cases h2 : a.row ++ b.row = r
      · simp [h1, h2, pairC, cnt_cons]
      · simp [h1, h2, pairC, cnt_cons]
    · simp [h1]

theorem pairs_cnt (i j : Int) (r : List Val) (A B : List Cnt) : cnt (pairsL i j A B) r = lin (fun a => lin (gOne i j r a) B) A := by
  induction A with
  | nil => rfl
  | cons a A ih =>
    have e : pairsL i j (a :: A) B = pairs1 i j a B ++ pairsL i j A B := rfl
    rw [e, cnt_app, ih, pairs1_cnt, lin]

theorem pairs_congr (i j : Int) {A A' B B' : List Cnt} (h1 : ∀ r, cnt A r = cnt A' r) (h2 : ∀ r, cnt B r = cnt B' r) (r : List Val) : cnt (pairsL i j A B) r = cnt (pairsL i j A' B') r := by
  rw [pairs_cnt, pairs_cnt, lin_congr _ h1]
  exact lin_ext fun c _ => lin_congr _ h2

theorem pairs_addL (i j : Int) (r : List Val) (A A' B : List Cnt) : cnt (pairsL i j (A ++ A') B) r = cnt (pairsL i j A B) r + cnt (pairsL i j A' B) r := by
  rw [pairs_cnt, pairs_cnt, pairs_cnt, lin_app]
theorem pairs_addR (i j : Int) (r : List Val) (A B B' : List Cnt) : cnt (pairsL i j A (B ++ B')) r = cnt (pairsL i j A B) r + cnt (pairsL i j A B') r := by
  rw [pairs_cnt, pairs_cnt, pairs_cnt, ← lin_add]
  exact lin_ext fun c _ => lin_app _ _ _
theorem pairs_mem {i j : Int} {A B : List Cnt} {c : Cnt} (h : c ∈ pairsL i j A B) : ∃ a ∈ A, ∃ b ∈ B, meetR i j a.row b.row = true ∧ c = pairC a b := by
  obtain ⟨a, ha, h⟩ := List.mem_flatMap.1 h
  obtain ⟨b, hb, rfl⟩ := List.mem_map.1 h
  obtain ⟨hb, hm⟩ := List.mem_filter.1 hb
  exact ⟨a, ha, b, hb, hm, rfl⟩

def pairOk (c : Cnt) : Bool := decide (c.row.length ≤ 40) && fitsN c.n
def manyOk (L : List Cnt) : Bool := decide (L.length ≤ 10000) && L.all pairOk

def prodV (w : List UInt8) (i j : Int) (A B : List Cnt) : List Cnt × Int :=
  if mayB A = true ∧ mayB B = true then
    if w = [] then (A, 0) else
    if manyOk (pairsL i j A B) = true ∧ mayB (sumB (pairsL i j A B)) = true then (sumB (pairsL i j A B), 0) else ([], 100)
  else ([], 0)

theorem prodV_may (w : List UInt8) (i j : Int) (A B : List Cnt) : mayB (prodV w i j A B).1 = true := by
  unfold prodV
  split
  · rename_i h
    split
    · exact h.1
    · split
      · rename_i h2; exact h2.2
      · exact mayB_nil
  · exact mayB_nil

theorem prodV_ok {w : List UInt8} {i j : Int} {A B : List Cnt} (hw : w ≠ []) (hA : mayB A = true) (hB : mayB B = true) (h : (prodV w i j A B).2 = 0) : (prodV w i j A B).1 = sumB (pairsL i j A B) := by
  unfold prodV at h ⊢
  rw [if_pos ⟨hA, hB⟩, if_neg hw] at h ⊢
  split
  · rfl
  · rename_i h2; rw [if_neg h2] at h; cases h

theorem prodV_err {w : List UInt8} {i j : Int} {A B : List Cnt} (h : (prodV w i j A B).2 ≠ 0) : (prodV w i j A B) = ([], 100) := by
  unfold prodV at h ⊢
  split
  · rename_i h1
    rw [if_pos h1] at h
    split
    · rename_i h2; rw [if_pos h2] at h; exact absurd rfl h
    · rename_i h2
      rw [if_neg h2] at h
      split
      · rename_i h3; rw [if_pos h3] at h; exact absurd rfl h
      · rfl
  · rename_i h1; rw [if_neg h1] at h; exact absurd rfl h

/-! what stays -/

def keepB (p : List Val → Bool) (B : List Cnt) : List Cnt := B.filter fun c => p c.row
theorem keep_cnt (p : List Val → Bool) (B : List Cnt) (r : List Val) : cnt (keepB p B) r = if p r = true then cnt B r else 0 := by
  induction B with
  | nil => simp [keepB]
  | cons c B ih =>
    have e : keepB p (c :: B) = (if p c.row = true then [c] else []) ++ keepB p B := by
      unfold keepB
      rw [List.filter_cons]
      split <;> simp
    rw [e, cnt_app, ih, cnt_cons]
    by_cases h1 : c.row = r
    · subst h1
      by_cases h2 : p c.row = true
      · simp [h2, cnt_cons]
      · simp [h2]
    · by_cases h2 : p c.row = true
      · simp [h2, h1, cnt_cons]
      · simp [h2, h1]
theorem keep_rising {p : List Val → Bool} {B : List Cnt} (h : rising B) : rising (keepB p B) := h.sublist List.filter_sublist
theorem keep_canon {p : List Val → Bool} {B : List Cnt} (h : canon B) : canon (keepB p B) := ⟨keep_rising h.1, fun c hc => h.2 c (List.mem_filter.1 hc).1⟩
theorem keep_may {p : List Val → Bool} {B : List Cnt} (h : mayB B = true) : mayB (keepB p B) = true := by
  obtain ⟨h1, h2⟩ := mayB_iff.1 h
  exact mayB_iff.2 ⟨keep_rising h1, fun c hc => h2 c (List.mem_filter.1 hc).1⟩

def whereF (f : List Val → Bool × Int) : List Cnt → List Cnt × Int
  | [] => ([], 0)
  | c :: B => if (f c.row).2 ≠ 0 then ([], (f c.row).2) else
    let r := whereF f B
    if r.2 ≠ 0 then ([], r.2) else ((if (f c.row).1 = true then [c] else []) ++ r.1, 0)

theorem whereF_ok {f : List Val → Bool × Int} : ∀ {B : List Cnt}, (whereF f B).2 = 0 ↔ ∀ c ∈ B, (f c.row).2 = 0
  | [] => by simp [whereF]
  | c :: B => by
    unfold whereF
    by_cases h : (f c.row).2 = 0
    · rw [if_neg (by simpa using h)]
      by_cases h2 : (whereF f B).2 = 0
      · simp only [h2, ne_eq, not_true, if_false, true_iff]
        have := whereF_ok.1 h2
        exact fun d hd => by
          rcases List.mem_cons.1 hd with rfl | hd
          · exact h
          · exact this d hd
      · simp only [ne_eq, h2, not_false_iff, if_true, false_iff]
        intro hh
        exact h2 (whereF_ok.2 fun d hd => hh d (List.mem_cons_of_mem _ hd))
    · rw [if_pos h]
      simp only [h, false_iff]
      exact fun hh => h (hh c (List.mem_cons_self ..))

theorem whereF_eq {f : List Val → Bool × Int} : ∀ {B : List Cnt}, (whereF f B).2 = 0 → (whereF f B).1 = keepB (fun r => (f r).1) B
  | [], _ => rfl
  | c :: B, h => by
    have h1 := whereF_ok.1 h
    have h2 : (whereF f B).2 = 0 := whereF_ok.2 fun d hd => h1 d (List.mem_cons_of_mem _ hd)
    unfold whereF
    rw [if_neg (by simpa using h1 c (List.mem_cons_self ..))]
    simp only [h2, ne_eq, not_true, if_false]
    rw [whereF_eq h2]
    unfold keepB
    rw [List.filter_cons]
    split <;> rfl

theorem whereF_nil {f : List Val → Bool × Int} : ∀ {B : List Cnt}, (whereF f B).2 ≠ 0 → (whereF f B).1 = [] ∧ ∃ c ∈ B, (whereF f B).2 = (f c.row).2
  | [], h => absurd rfl h
  | c :: B, h => by
    unfold whereF at h ⊢
    by_cases h1 : (f c.row).2 ≠ 0
    · rw [if_pos h1]; exact ⟨rfl, c, List.mem_cons_self .., rfl⟩
    · rw [if_neg h1] at h ⊢
      by_cases h2 : (whereF f B).2 ≠ 0
      · simp only [h2, ne_eq, not_false_iff, if_true]
        obtain ⟨_, d, hd, e⟩ := whereF_nil h2
        exact ⟨trivial, d, List.mem_cons_of_mem _ hd, e⟩
      · simp only [h2, if_false] at h; exact absurd rfl h

def whereV (f : List Val → Bool × Int) (B : List Cnt) : List Cnt × Int := if mayB B = true then whereF f B else ([], 0)

end Go.Proofs.YtikmahlogjcieaaGreat

set_option linter.unusedVariables false
set_option linter.unusedSimpArgs false
namespace Go.Proofs.YtikmahlogjcieaaGreat
open Go Go.Pu

def u8k (x : Int) : UInt8 := UInt8.ofNat (x % 256).toNat
def N64k (w : Int) : Int := (w + 9223372036854775808) % 18446744073709551616
def num8k (w : Int) : List UInt8 :=
  [u8k (N64k w / 72057594037927936), u8k (N64k w / 281474976710656), u8k (N64k w / 1099511627776), u8k (N64k w / 4294967296), u8k (N64k w / 16777216), u8k (N64k w / 65536), u8k (N64k w / 256), u8k (N64k w)]

def escK : List UInt8 → List UInt8
  | [] => []
  | b :: r => if b = 0 then 0 :: 255 :: escK r else b :: escK r

def encV (v : Val) : List UInt8 :=
  u8k (v.k + 1) :: (if v.k = 1 then [u8k v.n] else if v.k = 2 then num8k v.n else if v.k = 3 then escK v.s ++ [0, 1] else [])

theorem u8k_nat (x : Int) : ((u8k x).toNat : Int) = x % 256 := by
  have h0 : 0 ≤ x % 256 := Int.emod_nonneg _ (by decide)
  have h1 : x % 256 < 256 := Int.emod_lt_of_pos _ (by decide)
  unfold u8k
  rw [UInt8.toNat_ofNat']
  omega

theorem u8k_eq {x y : Int} : u8k x = u8k y ↔ x % 256 = y % 256 := by
  rw [← UInt8.toNat_inj]
  have h1 := u8k_nat x
  have h2 := u8k_nat y
  omega

theorem escK_append : ∀ a b, escK (a ++ b) = escK a ++ escK b
  | [], b => rfl
  | x :: a, b => by
    simp only [List.cons_append, escK, escK_append a b]
    split <;> rfl

theorem escK_length : ∀ a, (escK a).length ≤ 2 * a.length
  | [] => by simp [escK]
  | x :: a => by
    have := escK_length a
    simp only [escK]
    split <;> simp only [List.length_cons] <;> omega

theorem escK_take {l : List UInt8} {i : Nat} (h : i < l.length) : escK (l.take (i + 1)) = escK (l.take i) ++ escK [l[i]] := by
  rw [← escK_append, List.take_add_one]
  simp [h]

theorem escK_inj : ∀ {s t : List UInt8}, escK s ++ [0, 1] = escK t ++ [0, 1] → s = t
  | [], [], _ => rfl
  | [], b :: t, h => by
    exfalso
    simp only [escK] at h
    split at h
    · simp at h
    · rename_i hb
      simp only [List.nil_append, List.cons_append, List.cons.injEq] at h
      exact hb h.1.symm
  | a :: s, [], h => by
    exfalso
    simp only [escK] at h
    split at h
    · simp at h
    · rename_i hb
      simp only [List.nil_append, List.cons_append, List.cons.injEq] at h
      exact hb h.1
  | a :: s, b :: t, h => by
    simp only [escK] at h
    split at h <;> split at h
    · rename_i ha hb
      simp only [List.cons_append, List.cons.injEq, true_and] at h
      rw [ha, hb, escK_inj h]
    · rename_i ha hb
      simp only [List.cons_append, List.cons.injEq] at h
      exact absurd h.1.symm hb
    · rename_i ha hb
      simp only [List.cons_append, List.cons.injEq] at h
      exact absurd h.1 ha
    · simp only [List.cons_append, List.cons.injEq] at h
      rw [h.1, escK_inj h.2]

def digK : Nat → Int → List UInt8
  | 0, _ => []
  | n + 1, x => u8k (x / 256 ^ n) :: digK n x

theorem num8k_dig (w : Int) : num8k w = digK 8 (N64k w) := by simp [num8k, digK]

theorem digK_inj : ∀ (n : Nat) (x y : Int), x / 256 ^ n = y / 256 ^ n → digK n x = digK n y → x = y
  | 0, x, y, h, _ => by simpa using h
  | n + 1, x, y, h, hd => by
    have hp : (0 : Int) < 256 ^ n := Int.pow_pos (by decide)
    have e : ∀ z : Int, z / 256 ^ (n + 1) = z / 256 ^ n / 256 := fun z => by
      rw [Int.pow_succ, Int.ediv_ediv_of_nonneg (Int.le_of_lt hp)]
    rw [e, e] at h
    simp only [digK, List.cons.injEq] at hd
    have := u8k_eq.1 hd.1
    exact digK_inj n x y (by omega) hd.2

theorem mayV_cases {v : Val} (h : mayV v = true) : (v.k = 0 ∧ v.n = 0 ∧ v.s = []) ∨ (v.k = 1 ∧ (v.n = 0 ∨ v.n = 1) ∧ v.s = []) ∨ (v.k = 2 ∧ v.s = []) ∨ (v.k = 3 ∧ v.n = 0 ∧ v.s.length ≤ 1000) := by
  unfold mayV at h
  split at h
  · simp_all
  · split at h
    · simp_all
    · split at h
      · simp_all
      · simp only [Bool.and_eq_true, decide_eq_true_eq, beq_iff_eq] at h
        exact .inr (.inr (.inr ⟨h.1.1, h.1.2, h.2⟩))

theorem valE {v w : Val} (h1 : v.k = w.k) (h2 : v.n = w.n) (h3 : v.s = w.s) : v = w := by
  obtain ⟨_, _, _⟩ := v; obtain ⟨_, _, _⟩ := w; simp only at h1 h2 h3; subst h1; subst h2; subst h3; rfl

theorem encV_inj {v w : Val} (hv : mayV v = true) (hw : mayV w = true) (iv : i64 v.n) (iw : i64 w.n) (h : encV v = encV w) : v = w := by
  unfold encV at h
  simp only [List.cons.injEq] at h
  obtain ⟨h0, h⟩ := h
  have h0 := u8k_eq.1 h0
  rcases mayV_cases hv with ⟨a1, a2, a3⟩ | ⟨a1, a2, a3⟩ | ⟨a1, a3⟩ | ⟨a1, a2, a3⟩ <;> rcases mayV_cases hw with ⟨b1, b2, b3⟩ | ⟨b1, b2, b3⟩ | ⟨b1, b3⟩ | ⟨b1, b2, b3⟩ <;> rw [a1, b1] at h0 h <;> try (omega)
  · exact valE (by rw [a1, b1]) (by rw [a2, b2]) (by rw [a3, b3])
  · simp at h
    have := u8k_eq.1 h
    exact valE (by rw [a1, b1]) (by rcases a2 with a2 | a2 <;> rcases b2 with b2 | b2 <;> rw [a2, b2] at this ⊢ <;> simp at this) (by rw [a3, b3])
  · simp only [show ¬ ((2 : Int) = 1) by decide, if_false, if_true] at h
    rw [num8k_dig, num8k_dig] at h
    have e1 : N64k v.n = v.n + 9223372036854775808 := by unfold N64k; unfold i64 at iv; omega
    have e2 : N64k w.n = w.n + 9223372036854775808 := by unfold N64k; unfold i64 at iw; omega
    have := digK_inj 8 _ _ (by
      rw [e1, e2]
      unfold i64 at iv iw
      rw [Int.ediv_eq_zero_of_lt (by omega) (by simp; omega), Int.ediv_eq_zero_of_lt (by omega) (by simp; omega)]) h
    exact valE (by rw [a1, b1]) (by omega) (by rw [a3, b3])
  · simp only [show ¬ ((3 : Int) = 1) by decide, show ¬ ((3 : Int) = 2) by decide, if_false, if_true] at h
    exact valE (by rw [a1, b1]) (by rw [a2, b2]) (escK_inj h)

/-! bytes as cells -/

def bcK (l : List UInt8) : List (List PV) := l.map fun b => [.int .u8 (b.toNat : Int)]
theorem bcK_append (a b : List UInt8) : bcK (a ++ b) = bcK a ++ bcK b := by simp [bcK]
theorem bcK_length (a : List UInt8) : (bcK a).length = a.length := by simp [bcK]

theorem cell_u8k (x : Int) : [[PV.int IntKind.u8 (IntKind.u8.wrap x)]] = bcK [u8k x] := by
  simp only [bcK, List.map_cons, List.map_nil]
  rw [u8k_nat, IntKind.wrap_u8]

theorem N64k_eq (w : Int) : IntKind.u64.wrap (IntKind.u64.wrap w + 9223372036854775808) = N64k w := by
  rw [IntKind.wrap_u64, IntKind.wrap_u64, N64k]; omega

theorem strOf_bcK (l : List UInt8) : strOf (bcK l) = bs l := by
  unfold strOf bcK bs
  congr 2
  rw [List.map_map]
  conv => rhs; rw [← List.map_id l]
  congr 1
  funext b
  simp [PV.toI]

end Go.Proofs.YtikmahlogjcieaaGreat

set_option linter.unusedVariables false
set_option linter.unusedSimpArgs false
namespace Go.Proofs.YtikmahlogjcieaaGreat
open Go Go.Pu

theorem sh8 : ∀ i : Nat, i < 8 → (2 : Int) ^ min (Int.toNat (w64 (8 * w64 (7 - (i : Int))))) 64 = 256 ^ (7 - i) ∧ ¬ w64 (8 * w64 (7 - (i : Int))) < 0 := by decide

theorem dig_at (N : Int) : ∀ i : Nat, i < 8 → (digK 8 N).take (i + 1) = (digK 8 N).take i ++ [u8k (N / 256 ^ (7 - i))]
  | 0, _ => rfl
  | 1, _ => rfl
  | 2, _ => rfl
  | 3, _ => rfl
  | 4, _ => rfl
  | 5, _ => rfl
  | 6, _ => rfl
  | 7, _ => rfl
  | n + 8, h => by omega

theorem num_loop (n : Int) (a : List (List PV)) (ha : a.length ≤ 1000000) : lres rd_key_Encode_59_8 [.i (N64k n), .i 0, .l a] = some (0, [.l (a ++ bcK (num8k n))]) := by
  have h := loop_acc (rd := rd_key_Encode_59_8) 8 (fun i => [.i (N64k n), .i (i : Nat), .l (a ++ bcK ((digK 8 (N64k n)).take i))]) (some (0, [.l (a ++ bcK (num8k n))]))
    (lres_stop (by simp [rd_key_Encode_59_8]; rw [num8k_dig]; rfl)) (by
    intro i hi
    obtain ⟨h1, h2⟩ := sh8 i hi
    have e1 : ((a ++ bcK ((digK 8 (N64k n)).take i)).length + 1) * 1 ≤ 140737488355328 := by
      rw [List.length_append, bcK_length, List.length_take]; omega
    have e2 : (i : Int) < 8 := by omega
    have e3 : a ++ bcK ((digK 8 (N64k n)).take i) ++ [[PV.int IntKind.u8 (IntKind.wrap IntKind.u8 (Int.fdiv (N64k n) (256 ^ (7 - i))))]] = a ++ bcK ((digK 8 (N64k n)).take (i + 1)) := by
      rw [dig_at _ i hi, bcK_append, Int.fdiv_eq_ediv_of_nonneg _ (Int.pow_nonneg (by decide)), cell_u8k, List.append_assoc]
    simp only [rd_key_Encode_59_8, rt_test, rt_next, e2, h1, h2, e1, e3, decide_true, decide_false, Bool.false_eq_true, if_true, if_false, w64_succ (i := i) (by omega)])
  simp only [List.take_zero, Int.natCast_zero, bcK, List.map_nil, List.append_nil] at h
  exact h

theorem text_loopK (s : List UInt8) (hs : s.length ≤ 1000000) (a : List (List PV)) (ha : a.length ≤ 1000000) (k n : Int) : lres rd_key_Encode_59_14 [.i (s.length : Nat), .i 0, .l a, .i k, .i n, .s (bs s)] = some (0, [.l (a ++ bcK (escK s))]) := by
  have h := loop_acc (rd := rd_key_Encode_59_14) s.length (fun i => [.i (s.length : Nat), .i (i : Nat), .l (a ++ bcK (escK (s.take i))), .i k, .i n, .s (bs s)]) (some (0, [.l (a ++ bcK (escK s))]))
    (lres_stop (by simp [rd_key_Encode_59_14])) (by
    intro i hi
    have el : (a ++ bcK (escK (s.take i))).length ≤ 1000000 + 2 * 1000000 := by
      rw [List.length_append, bcK_length]
      have := escK_length (s.take i)
      rw [List.length_take] at this
      omega
    have e1 : ((a ++ bcK (escK (s.take i))).length + 1) * 1 ≤ 140737488355328 := by omega
    have e2 : (i : Int) < (s.length : Int) := by omega
    have e4 : ∀ x : List PV, ((a ++ bcK (escK (s.take i)) ++ [x]).length + 1) * 1 ≤ 140737488355328 := fun x => by rw [List.length_append]; simp only [List.length_singleton]; omega
    have e5 : List.getD s i 0 = s[i] := by rw [List.getD, List.getElem?_eq_getElem hi]; rfl
    by_cases hb : s[i] = 0
    · have e3 : a ++ bcK (escK (s.take i)) ++ [[PV.int IntKind.u8 (((0 : UInt8).toNat : Nat) : Int)]] ++ [[PV.int IntKind.u8 255]] = a ++ bcK (escK (s.take (i + 1))) := by
        rw [escK_take hi, hb, bcK_append, List.append_assoc, List.append_assoc]; rfl
      have e6 : (((0 : UInt8).toNat : Nat) : Int) = 0 := rfl
      simp only [rd_key_Encode_59_14, rt_test, rt_next, bs_size, inR_cast, Int.ofNat_lt, hi, e2, e1, e4, bs_data, Int.toNat_natCast, e5, hb, e6, beq_self_eq_true, decide_true, if_true, w64_succ (i := i) (by omega)]
      rw [← e3, e6]
    · have hb' : ¬ ((s[i].toNat : Nat) : Int) = 0 := fun h => hb (by
        have : s[i].toNat = 0 := by omega
        exact UInt8.toNat_inj.1 (by simpa using this))
      have hb2 : (((s[i].toNat : Nat) : Int) == 0) = false := by simpa using hb'
      have e3 : a ++ bcK (escK (s.take i)) ++ [[PV.int IntKind.u8 ((s[i].toNat : Nat) : Int)]] = a ++ bcK (escK (s.take (i + 1))) := by
        rw [escK_take hi, bcK_append, List.append_assoc]
        have : escK [s[i]] = [s[i]] := by simp [escK, hb]
        rw [this]; rfl
      simp only [rd_key_Encode_59_14, rt_test, rt_next, bs_size, inR_cast, Int.ofNat_lt, hi, e2, e1, e4, bs_data, Int.toNat_natCast, e5, hb2, Bool.false_eq_true, if_false, decide_true, if_true, e3, w64_succ (i := i) (by omega)])
  simp only [List.take_zero, Int.natCast_zero, bcK, escK, List.map_nil, List.append_nil] at h
  exact h

theorem Encode1_res (v : Val) (hv : v.ok) : (m_key_Encode [.l [[pI v.k, pI v.n, pS (bs v.s)]]]).res = some (0, [.s (bs (if mayV v = true then encV v else []))]) := by
  have h0 := value_May_res v
  have eE : el [[pI v.k, pI v.n, pS (bs v.s)]] 0 = [pI v.k, pI v.n, pS (bs v.s)] := rfl
  have eL : ln [[pI v.k, pI v.n, pS (bs v.s)]] = 1 := rfl
  by_cases hm : mayV v = true
  · -- one round
    have hk : w64 (v.k + 1) = v.k + 1 := by
      rcases mayV_cases hm with ⟨a, _⟩ | ⟨a, _⟩ | ⟨a, _⟩ | ⟨a, _⟩ <;> rw [a] <;> decide
    have c0 : [[PV.int IntKind.u8 (IntKind.wrap IntKind.u8 (v.k + 1))]] = bcK [u8k (v.k + 1)] := cell_u8k _
    have round : (rd_key_Encode_34_3 [.l [[pI v.k, pI v.n, pS (bs v.s)]], .i 1, .i 0, .l []]).val = some (.next [.l [[pI v.k, pI v.n, pS (bs v.s)]], .i 1, .i 1, .l (bcK (encV v))]) := by
      have e01 : ((0 : Int) < 1) = True := by simp
      have w01 : w64 (0 + 1) = 1 := by decide
      have r01 : inR 0 1 = true := by decide
      simp only [rd_key_Encode_34_3, rt_test, rt_next, eE, eL, cI_p, cI_s, cS_s, cS_p, h0, hm, ok_some', out_some, uB_0, beq_self_eq_true, Bool.not_true, Bool.false_eq_true, if_true, if_false, e01, r01, w01, decide_true, hk, List.length_nil, List.nil_append, c0]
      rcases mayV_cases hm with ⟨a1, a2, a3⟩ | ⟨a1, a2, a3⟩ | ⟨a1, a3⟩ | ⟨a1, a2, a3⟩
      · simp [a1, encV, bcK]
      · have c1 := cell_u8k v.n
        simp only [a1, show ((1 : Int) == 1) = true from rfl, if_true]
        rw [c1, ← bcK_append]
        simp [a1, encV, bcK]
      · have hl := num_loop v.n (bcK [u8k (v.k + 1)]) (by simp [bcK])
        rw [a1] at hl
        simp only [a1, show ((2 : Int) == 1) = false from rfl, show ((2 : Int) == 2) = true from rfl, Bool.false_eq_true, if_false, if_true, N64k_eq]
        rw [hl]
        simp [a1, encV, bcK]
      · have hl := text_loopK v.s (by omega) (bcK [u8k (v.k + 1)]) (by simp [bcK]) v.k v.n
        rw [a1] at hl
        simp only [a1, show ((3 : Int) == 1) = false from rfl, show ((3 : Int) == 2) = false from rfl, show ((3 : Int) == 3) = true from rfl, Bool.false_eq_true, if_false, if_true, bs_size]
        rw [hl]
        have el : (bcK [u8k (3 + 1)] ++ bcK (escK v.s)).length + 2 ≤ 140737488355328 := by
          have := escK_length v.s
          rw [List.length_append, bcK_length, bcK_length]; simp; omega
        simp only [ok_some', out_some, beq_self_eq_true, if_true, uL_0, Nat.mul_one, el, decide_true, a1, encV, show ¬ ((3 : Int) = 1) by decide, show ¬ ((3 : Int) = 2) by decide, if_false]
        simp [bcK]
    have hloop : lres rd_key_Encode_34_3 [.l [[pI v.k, pI v.n, pS (bs v.s)]], .i 1, .i 0, .l []] = some (1, [.l (bcK (encV v))]) := by
      rw [lres_next round]
      exact lres_stop (by simp [rd_key_Encode_34_3])
    simp only [m_key_Encode, eL, hloop, ok_some', out_some, res_test, res_stop, uL_0, show ((1 : Nat) == 0) = false from rfl, show ((0 : Nat) == 1) = false from rfl, Bool.false_eq_true, if_false, beq_self_eq_true, if_true, hm, strOf_bcK]
  · have hm' : mayV v = false := by simpa using hm
    have hloop : lres rd_key_Encode_34_3 [.l [[pI v.k, pI v.n, pS (bs v.s)]], .i 1, .i 0, .l []] = some (0, [.s (bs [])]) :=
      lres_stop (by
        have r01 : inR 0 1 = true := by decide
        simp only [rd_key_Encode_34_3, rt_test, rt_stop, eE, cI_p, cI_s, cS_s, cS_p, h0, hm', ok_some', out_some, uB_0, beq_self_eq_true, Bool.not_false, if_true, r01, show decide ((0 : Int) < 1) = true from rfl]
        rfl)
    simp only [m_key_Encode, eL, hloop, ok_some', out_some, res_test, res_stop, uS_0, beq_self_eq_true, if_true, hm', Bool.false_eq_true, if_false]

end Go.Proofs.YtikmahlogjcieaaGreat

set_option linter.unusedVariables false
set_option linter.unusedSimpArgs false
namespace Go.Proofs.YtikmahlogjcieaaGreat
open Go Go.Pu

theorem beq_bytes (a b : ByteArray) : (a == b) = decide (a = b) := by
  by_cases h : a = b
  · rw [(MapKept.bytes_beq a b).2 h]; simp [h]
  · rw [bytes_ne h]; simp [h]

theorem at_put (x : PV) (s s' : ByteArray) : ∀ es : List (List PV), atM (putM es s x) s' = if s' = s then x else atM es s'
  | [] => by
    simp only [putM, atM, beq_bytes]
    have : keyM [PV.str s, x] = s := rfl
    rw [this]
    by_cases h : s' = s
    · simp [h]
    · simp [h, Ne.symm h]
  | e :: es => by
    have ih := at_put x s s' es
    simp only [putM, beq_bytes]
    by_cases h : keyM e = s
    · have e1 : keyM [PV.str s, x] = s := rfl
      simp only [h, decide_true, if_true, atM, beq_bytes, e1]
      by_cases h2 : s' = s
      · simp [h2]
      · simp [h2, Ne.symm h2]
    · simp only [h, decide_false, Bool.false_eq_true, if_false, atM, beq_bytes, ih]
      by_cases h2 : s' = s
      · subst h2; simp [h]
      · simp only [h2, if_false]

theorem lk_put (t : TypeId) (rows es : List (List PV)) (s s' : ByteArray) : lkM (putM es s (.lst t rows)) s' = if s' = s then rows else lkM es s' := by
  unfold lkM
  rw [at_put]
  split <;> rfl

theorem bs_inj {a b : List UInt8} (h : bs a = bs b) : a = b := by
  have := congrArg (fun x : ByteArray => x.data.toList) h
  simpa using this

theorem at_res (r : List Val) (n : Int) : (m_query_at [.l (re r), .i n]).res = some (0, [.i (atV r n).k, .i (atV r n).n, .s (bs (atV r n).s)]) := by
  unfold atV
  by_cases h1 : n < 0
  · have : ¬ (0 ≤ n ∧ n < (r.length : Int)) := by omega
    simp [m_query_at, h1, this, nul, bs_nil]
  · by_cases h2 : n ≥ (r.length : Int)
    · have : ¬ (0 ≤ n ∧ n < (r.length : Int)) := by omega
      simp [m_query_at, h1, h2, this, nul, bs_nil]
    · have h3 : 0 ≤ n ∧ n < (r.length : Int) := by omega
      have hk : n.toNat < r.length := by omega
      have e1 : el (re r) n = Val.e r[n.toNat] := by
        unfold el re
        rw [List.getD, List.getElem?_map, List.getElem?_eq_getElem hk]
        rfl
      have e2 : r.getD n.toNat nul = r[n.toNat] := by rw [List.getD, List.getElem?_eq_getElem hk]; rfl
      have e3 : inR n (r.length : Int) = true := inR_iff.2 h3
      rw [if_pos h3, e2]
      simp [m_query_at, h1, h2, e3, e1, Val.e]

theorem nul_may : mayV nul = true := by decide

theorem atV_may {r : List Val} (h : mayR r = true) (n : Int) : mayV (atV r n) = true := by
  unfold mayR at h
  simp only [Bool.and_eq_true] at h
  unfold atV
  split
  · rename_i hn
    have hk : n.toNat < r.length := by omega
    have e2 : r.getD n.toNat nul = r[n.toNat] := by rw [List.getD, List.getElem?_eq_getElem hk]; rfl
    rw [e2]
    exact List.all_eq_true.1 h.2 _ (List.getElem_mem hk)
  · exact nul_may

theorem atV_ok {r : List Val} (h : okR r) (n : Int) : (atV r n).ok := by
  unfold atV
  split
  · rename_i hn
    have hk : n.toNat < r.length := by omega
    have e2 : r.getD n.toNat nul = r[n.toNat] := by rw [List.getD, List.getElem?_eq_getElem hk]; rfl
    rw [e2]
    exact h.2 _ (List.getElem_mem hk)
  · exact nul_ok

def hasK (j : Int) (k : List UInt8) (c : Cnt) : Bool := decide ((atV c.row j).k ≠ 0 ∧ encV (atV c.row j) = k)

theorem hasK_meet {i j : Int} {a b : Cnt} (ha : mayR a.row = true) (hb : mayR b.row = true) (oa : okR a.row) (ob : okR b.row) (hk : (atV a.row i).k ≠ 0) : hasK j (encV (atV a.row i)) b = meetR i j a.row b.row := by
  unfold hasK meetR
  rw [decide_eq_decide]
  constructor
  · rintro ⟨h1, h2⟩
    exact ⟨(encV_inj (atV_may hb j) (atV_may ha i) (atV_ok ob j).2.1 (atV_ok oa i).2.1 h2).symm, hk⟩
  · rintro ⟨h1, h2⟩
    rw [← h1]; exact ⟨h2, rfl⟩

theorem index_loop (b : List Cnt) (hb : okB b) (hm : mayB b = true) (h0 : b.length ≤ 1000000) (j : Int) : ∀ m i (es : List (List PV)), b.length - i = m → i ≤ b.length → (∀ k, lkM es (bs k) = ((b.take i).filter (hasK j k)).map Cnt.e) →
    ∃ es', lres rd_query_index_32_3 [.i j, .l (b.map Cnt.e), .i (b.length : Nat), .i (i : Nat), .l es] = some (0, [.l es']) ∧ ∀ k, lkM es' (bs k) = (b.filter (hasK j k)).map Cnt.e := by
  intro m
  induction m with
  | zero =>
    intro i es hi hle he
    have : i = b.length := by omega
    subst this
    refine ⟨es, lres_stop (by simp [rd_query_index_32_3]), fun k => ?_⟩
    rw [he, List.take_length]
  | succ m ih =>
    intro i es hi hle he
    have h : i < b.length := by omega
    have hc := hb.2 b[i] (List.getElem_mem h)
    have hmr := mayB_row hm (List.getElem_mem h)
    have h1 := at_res b[i].row j
    have hmv := atV_may hmr j
    have ht : b.take (i + 1) = b.take i ++ [b[i]] := by rw [List.take_add_one, List.getElem?_eq_getElem h]; rfl
    have row0 : cL b[i].e 0 = re b[i].row := rfl
    have row1 : cI b[i].e 1 = b[i].n := rfl
    by_cases hk : (atV b[i].row j).k = 0
    · obtain ⟨es', e1, e2⟩ := ih (i + 1) es (by omega) (by omega) fun k => by
        rw [he, ht, List.filter_append]
        have : hasK j k b[i] = false := by simp [hasK, hk]
        simp [List.filter_cons, this]
      refine ⟨es', ?_, e2⟩
      rw [← e1]
      have hb0 : ((0 : Int) != 0) = false := rfl
      refine lres_next ?_
      simp only [rd_query_index_32_3, rt_test, rt_next, el_map _ _ h, ln_map, inR_cast, Int.ofNat_lt, h, decide_true, if_true, row0, h1, ok_some', out_some, uI_0, hk, hb0, beq_self_eq_true, Bool.false_eq_true, if_false, w64_succ (i := i) (by omega)]
    · have h2 := Encode1_res (atV b[i].row j) (atV_ok hc.1 j)
      rw [hmv, if_pos rfl] at h2
      have hlen : ((lkM es (bs (encV (atV b[i].row j)))).length + 1) * 32 ≤ 140737488355328 := by
        rw [he, List.length_map]
        have h3 := List.length_filter_le (hasK j (encV (atV b[i].row j))) (b.take i)
        rw [List.length_take] at h3
        omega
      obtain ⟨es', e1, e2⟩ := ih (i + 1) (putM es (bs (encV (atV b[i].row j))) (PV.lst 54 (lkM es (bs (encV (atV b[i].row j))) ++ [[PV.lst 56 (re b[i].row), pI b[i].n]]))) (by omega) (by omega) fun k => by
        rw [lk_put, he, he, ht, List.filter_append]
        by_cases e : bs k = bs (encV (atV b[i].row j))
        · have e' := bs_inj e
          have : hasK j k b[i] = true := by simp [hasK, hk, e']
          rw [if_pos e, ← e']
          simp [List.filter_cons, this, Cnt.e]
        · have : hasK j k b[i] = false := by
            simp only [hasK, decide_eq_false_iff_not, not_and]
            exact fun _ h4 => e (by rw [h4])
          rw [if_neg e]
          simp [List.filter_cons, this]
      refine ⟨es', ?_, e2⟩
      rw [← e1]
      have hb0 : ((atV b[i].row j).k != 0) = true := by simpa using hk
      refine lres_next ?_
      simp only [rd_query_index_32_3, rt_test, rt_next, el_map _ _ h, ln_map, inR_cast, Int.ofNat_lt, h, decide_true, if_true, row0, row1, h1, h2, ok_some', out_some, uI_0, uI_s, uS_s, uS_0, hb0, beq_self_eq_true, hlen, w64_succ (i := i) (by omega)]

theorem index_res (b : List Cnt) (hb : okB b) (hm : mayB b = true) (h0 : b.length ≤ 1000000) (j : Int) : ∃ es, (m_query_index [.l (b.map Cnt.e), .i j]).res = some (0, [.l es]) ∧ ∀ k, lkM es (bs k) = (b.filter (hasK j k)).map Cnt.e := by
  obtain ⟨es, e1, e2⟩ := index_loop b hb hm h0 j b.length 0 [] (by omega) (by omega) fun k => rfl
  refine ⟨es, ?_, e2⟩
  have e1 : lres rd_query_index_32_3 [.i j, .l (b.map Cnt.e), .i (b.length : Nat), .i 0, .l []] = some (0, [.l es]) := e1
  simp only [m_query_index, ln_map, e1, ok_some', out_some, res_test, res_stop, uL_0, beq_self_eq_true, if_true]

/-! products -/

theorem pairOk_iff {c : Cnt} : pairOk c = true ↔ c.row.length ≤ 40 ∧ fitsN c.n = true := by simp [pairOk]

section
variable (v0 v1 v2 : ByteArray) (i j : Int) (l5 l6 : List (List PV)) (b7 : Bool) (l8 : List (List PV))

theorem pair_loop (A : List (List PV)) (nA iA : Int) (es : List (List PV)) (a : Cnt) (ha : mayR a.row = true) (na : a.n.natAbs ≤ 1000000000) (C O : List Cnt) (hC : ∀ c ∈ C, mayR c.row = true ∧ c.n.natAbs ≤ 1000000000) (h0 : C.length ≤ 1000000) (hO : manyOk O = true) :
    lres rd_query_Product_9_13 [.l A, .i nA, .i iA, .l (C.map Cnt.e), .i (C.length : Nat), .i 0, .s v0, .s v1, .s v2, .i i, .i j, .l l5, .l l6, .b b7, .l l8, .l es, .l (O.map Cnt.e), .l (re a.row), .i a.n] =
      if manyOk (O ++ C.map (pairC a)) = true then some (1, [.l A, .i nA, .i iA, .s v0, .s v1, .s v2, .i i, .i j, .l l5, .l l6, .b b7, .l l8, .l es, .l ((O ++ C.map (pairC a)).map Cnt.e)]) else some (0, [.i 100]) := by
  have hO1 : O.length ≤ 10000 := by unfold manyOk at hO; simp only [Bool.and_eq_true, decide_eq_true_eq] at hO; exact hO.1
  have hO2 : O.all pairOk = true := by unfold manyOk at hO; simp only [Bool.and_eq_true, decide_eq_true_eq] at hO; exact hO.2
  have la : a.row.length ≤ 40 := by unfold mayR at ha; simp only [Bool.and_eq_true, decide_eq_true_eq] at ha; exact ha.1
  have h := loop_ix C.length (rd := rd_query_Product_9_13) (fun p => [.l A, .i nA, .i iA, .l (C.map Cnt.e), .i (C.length : Nat), .i (p : Nat), .s v0, .s v1, .s v2, .i i, .i j, .l l5, .l l6, .b b7, .l l8, .l es, .l ((O ++ (C.take p).map (pairC a)).map Cnt.e), .l (re a.row), .i a.n])
    (fun p => pairOk (pairC a (C.getD p ⟨[], 0⟩)) && decide (O.length + p < 10000)) 0 1 (fun _ => [.i 100]) [.l A, .i nA, .i iA, .s v0, .s v1, .s v2, .i i, .i j, .l l5, .l l6, .b b7, .l l8, .l es, .l ((O ++ C.map (pairC a)).map Cnt.e)]
    (by simp [rd_query_Product_9_13]) (by
    intro p hp hall
    have hc := hC C[p] (List.getElem_mem hp)
    have lc : C[p].row.length ≤ 40 := by have := hc.1; unfold mayR at this; simp only [Bool.and_eq_true, decide_eq_true_eq] at this; exact this.1
    have e0 : C.getD p ⟨[], 0⟩ = C[p] := by rw [List.getD, List.getElem?_eq_getElem hp]; rfl
    have hj := Join_res a.row C[p].row (by omega) (by omega)
    have row0 : cL C[p].e 0 = re C[p].row := rfl
    have row1 : cI C[p].e 1 = C[p].n := rfl
    have hw : w64 (a.n * C[p].n) = a.n * C[p].n := by
      have h1 : (a.n * C[p].n).natAbs ≤ 1000000000 * 1000000000 := by rw [Int.natAbs_mul]; exact Nat.mul_le_mul na hc.2
      exact w64_eq (by omega) (by omega)
    have hl : ((O ++ (C.take p).map (pairC a)).map Cnt.e).length = O.length + p := by
      simp only [List.length_map, List.length_append, List.length_take]; omega
    have hln : ln ((O ++ (C.take p).map (pairC a)).map Cnt.e) = ((O.length + p : Nat) : Int) := by unfold ln; rw [hl]
    have hroom : (((O ++ (C.take p).map (pairC a)).map Cnt.e).length + 1) * 32 ≤ 140737488355328 := by rw [hl]; omega
    have hrow : ln (re (a.row ++ C[p].row)) = ((a.row ++ C[p].row).length : Int) := ln_re _
    simp only [rd_query_Product_9_13, rt_test, rt_next, rt_stop, el_map _ _ hp, ln_map, inR_cast, Int.ofNat_lt, hp, decide_true, if_true, row0, row1, hj, ok_some', out_some, uL_0, beq_self_eq_true, hw, hln, hrow, hroom, e0]
    simp only [pairOk, pairC, fitsN]
    by_cases c1 : (a.row ++ C[p].row).length ≤ 40
    · have c1' : ¬ (((a.row ++ C[p].row).length : Nat) : Int) > 40 := by omega
      by_cases c2 : a.n * C[p].n > 1000000000
      · have : ¬ a.n * C[p].n ≤ 1000000000 := by omega
        simp only [c1, c1', c2, this, decide_true, decide_false, Bool.false_eq_true, if_false, if_true, Bool.and_false, Bool.false_and]
      · by_cases c3 : a.n * C[p].n < -1000000000
        · have : ¬ -1000000000 ≤ a.n * C[p].n := by omega
          simp only [c1, c1', c2, c3, this, decide_true, decide_false, Bool.false_eq_true, if_false, if_true, Bool.and_false, Bool.false_and]
        · have c4 : -1000000000 ≤ a.n * C[p].n := by omega
          have c5 : a.n * C[p].n ≤ 1000000000 := by omega
          by_cases c6 : O.length + p < 10000
          · have c6' : ¬ ((O.length + p : Nat) : Int) ≥ 10000 := by omega
            have ht : (O ++ (C.take (p + 1)).map (pairC a)).map Cnt.e = (O ++ (C.take p).map (pairC a)).map Cnt.e ++ [[PV.lst 56 (re (a.row ++ C[p].row)), pI (a.n * C[p].n)]] := by
              rw [take_one C hp]; simp only [List.map_append, List.append_assoc]; rfl
            have c1i : ¬ ((a.row ++ C[p].row).length : Int) > 40 := c1'
            simp only [c1, c1i, c2, c3, c4, c5, c6, c6', decide_true, decide_false, Bool.false_eq_true, if_false, if_true, Bool.and_self, ht, w64_succ (i := p) (by omega)]
          · have c6' : ((O.length + p : Nat) : Int) ≥ 10000 := by omega
            have c1i : ¬ ((a.row ++ C[p].row).length : Int) > 40 := c1'
            simp only [c1, c1i, c2, c3, c4, c5, c6, c6', decide_true, decide_false, Bool.false_eq_true, if_false, if_true, Bool.and_false]
    · have c1' : (((a.row ++ C[p].row).length : Nat) : Int) > 40 := by omega
      simp only [c1, c1', decide_true, decide_false, Bool.false_eq_true, if_false, if_true, Bool.and_false, Bool.false_and])
  simp only [List.take_zero, Int.natCast_zero, List.map_nil, List.append_nil] at h
  rcases h with ⟨h1, h2⟩ | ⟨p, hp, h1, _, h2⟩
  · have hm : manyOk (O ++ C.map (pairC a)) = true := by
      unfold manyOk
      rw [Bool.and_eq_true, decide_eq_true_eq, List.all_append, hO2, Bool.true_and, List.length_append, List.length_map]
      refine ⟨?_, ?_⟩
      · by_cases hz : C.length = 0
        · omega
        · have := h1 (C.length - 1) (by omega)
          simp only [Bool.and_eq_true, decide_eq_true_eq] at this
          omega
      · rw [List.all_eq_true]
        intro c hc
        obtain ⟨d, hd, rfl⟩ := List.mem_map.1 hc
        obtain ⟨q, hq, rfl⟩ := List.mem_iff_getElem.1 hd
        have := h1 q hq
        simp only [Bool.and_eq_true, decide_eq_true_eq] at this
        rw [List.getD, List.getElem?_eq_getElem hq] at this
        exact this.1
    rw [if_pos hm, h2]
  · have hm : ¬ manyOk (O ++ C.map (pairC a)) = true := by
      intro hm
      unfold manyOk at hm
      rw [Bool.and_eq_true, decide_eq_true_eq, List.all_append, Bool.and_eq_true, List.length_append, List.length_map] at hm
      have h3 : pairOk (pairC a C[p]) = true := List.all_eq_true.1 hm.2.2 _ (List.mem_map.2 ⟨_, List.getElem_mem hp, rfl⟩)
      have e0 : C.getD p ⟨[], 0⟩ = C[p] := by rw [List.getD, List.getElem?_eq_getElem hp]; rfl
      rw [e0, h3, Bool.true_and, decide_eq_false_iff_not] at h1
      omega
    rw [if_neg hm, h2]

theorem manyOk_app {a b : List Cnt} (h : manyOk (a ++ b) = true) : manyOk a = true := by
  unfold manyOk at *
  rw [Bool.and_eq_true, decide_eq_true_eq, List.all_append, Bool.and_eq_true, List.length_append] at h
  rw [Bool.and_eq_true, decide_eq_true_eq]
  exact ⟨by omega, h.2.1⟩

theorem pairs_take (A B : List Cnt) {p : Nat} (h : p < A.length) : pairsL i j (A.take (p + 1)) B = pairsL i j (A.take p) B ++ pairs1 i j A[p] B := by
  rw [take_one A h]; unfold pairsL; rw [List.flatMap_append]; simp

theorem prod_loop (A B : List Cnt) (hA : okB A) (hB : okB B) (mA : mayB A = true) (mB : mayB B = true) (h0 : A.length ≤ 1000000) (k0 : B.length ≤ 1000000) (es : List (List PV)) (hes : ∀ k, lkM es (bs k) = (B.filter (hasK j k)).map Cnt.e) :
    lres rd_query_Product_9_8 [.l (A.map Cnt.e), .i (A.length : Nat), .i 0, .s v0, .s v1, .s v2, .i i, .i j, .l l5, .l l6, .b b7, .l l8, .l es, .l []] =
      if manyOk (pairsL i j A B) = true then some (1, [.l ((pairsL i j A B).map Cnt.e)]) else some (0, [.i 100]) := by
  have pre : ∀ p, p ≤ A.length → (∀ q, q < p → manyOk (pairsL i j (A.take (q + 1)) B) = true) → manyOk (pairsL i j (A.take p) B) = true := by
    intro p hp hq
    cases p with
    | zero => rfl
    | succ p => exact hq p (by omega)
  have h := loop_ix A.length (rd := rd_query_Product_9_8) (fun p => [.l (A.map Cnt.e), .i (A.length : Nat), .i (p : Nat), .s v0, .s v1, .s v2, .i i, .i j, .l l5, .l l6, .b b7, .l l8, .l es, .l ((pairsL i j (A.take p) B).map Cnt.e)])
    (fun p => manyOk (pairsL i j (A.take (p + 1)) B)) 0 1 (fun _ => [.i 100]) [.l ((pairsL i j A B).map Cnt.e)]
    (by simp [rd_query_Product_9_8]) (by
    intro p hp hall
    have hO := pre p (by omega) hall
    have hc := hA.2 A[p] (List.getElem_mem hp)
    have hmr := mayB_row mA (List.getElem_mem hp)
    have hn := mayB_n mA (List.getElem_mem hp)
    have h1 := at_res A[p].row i
    have row0 : cL A[p].e 0 = re A[p].row := rfl
    have row1 : cI A[p].e 1 = A[p].n := rfl
    have ht := pairs_take i j A B hp
    by_cases hk : (atV A[p].row i).k = 0
    · have hz : pairs1 i j A[p] B = [] := by
        unfold pairs1
        have : B.filter (fun b => meetR i j A[p].row b.row) = [] := by
          rw [List.filter_eq_nil_iff]
          intro b _
          simp [meetR, hk]
        rw [this]; rfl
      rw [hz, List.append_nil] at ht
      have hb0 : ((0 : Int) == 0) = true := rfl
      simp only [rd_query_Product_9_8, rt_test, rt_next, rt_stop, el_map _ _ hp, ln_map, inR_cast, Int.ofNat_lt, hp, decide_true, if_true, row0, h1, ok_some', out_some, uI_0, hk, hb0, beq_self_eq_true, ht, hO, w64_succ (i := p) (by omega)]
    · have h2 := Encode1_res (atV A[p].row i) (atV_ok hc.1 i)
      rw [atV_may hmr i, if_pos rfl] at h2
      have hb0 : ((atV A[p].row i).k == 0) = false := by simpa using hk
      have hl := pair_loop v0 v1 v2 i j l5 l6 b7 l8 (A.map Cnt.e) (A.length : Nat) (p : Nat) es A[p] hmr hn (B.filter (hasK j (encV (atV A[p].row i)))) (pairsL i j (A.take p) B)
        (fun c hc => ⟨mayB_row mB (List.mem_filter.1 hc).1, mayB_n mB (List.mem_filter.1 hc).1⟩) (Nat.le_trans (List.length_filter_le _ _) k0) hO
      have hf : B.filter (hasK j (encV (atV A[p].row i))) = B.filter fun b => meetR i j A[p].row b.row :=
        List.filter_congr fun b hb => hasK_meet hmr (mayB_row mB hb) hc.1 (hB.2 b hb).1 hk
      have hp1 : (B.filter (hasK j (encV (atV A[p].row i)))).map (pairC A[p]) = pairs1 i j A[p] B := by rw [hf]; rfl
      rw [hp1, ← ht] at hl
      have hln : ln ((B.filter (hasK j (encV (atV A[p].row i)))).map Cnt.e) = ((B.filter (hasK j (encV (atV A[p].row i)))).length : Int) := ln_map _ _
      simp only [rd_query_Product_9_8, rt_test, rt_next, rt_stop, el_map _ _ hp, ln_map, inR_cast, Int.ofNat_lt, hp, decide_true, if_true, row0, row1, h1, h2, ok_some', out_some, uI_0, uI_s, uS_s, uS_0, hb0, beq_self_eq_true, Bool.false_eq_true, if_false, hes, hln, hl]
      by_cases hmo : manyOk (pairsL i j (A.take (p + 1)) B) = true
      · simp only [hmo, if_true, ok_some', out_some, show ((0 : Nat) == 1) = false from rfl, Bool.false_eq_true, if_false, beq_self_eq_true, uI_0, uI_s, uS_s, uS_0, uL_s, uL_0, uB_s, uB_0, rt_test, rt_next, w64_succ (i := p) (by omega)]
      · simp only [hmo, if_false, ok_some', out_some, beq_self_eq_true, if_true, uI_0, rt_test, rt_stop, Bool.false_eq_true])
  simp only [List.take_zero, Int.natCast_zero] at h
  rw [show pairsL i j [] B = [] from rfl, List.map_nil] at h
  rcases h with ⟨h1, h2⟩ | ⟨p, hp, h1, _, h2⟩
  · have := pre A.length (Nat.le_refl _) h1
    rw [List.take_length] at this
    rw [if_pos this, h2]
  · have hm : ¬ manyOk (pairsL i j A B) = true := by
      intro hm
      have e : pairsL i j A B = pairsL i j (A.take (p + 1)) B ++ pairsL i j (A.drop (p + 1)) B := by
        unfold pairsL
        rw [← List.flatMap_append, List.take_append_drop]
      rw [e] at hm
      rw [manyOk_app hm] at h1
      cases h1
    rw [if_neg hm, h2]

theorem pairs_okB {A B : List Cnt} (hA : okB A) (hB : okB B) (mA : mayB A = true) (mB : mayB B = true) (hm : manyOk (pairsL i j A B) = true) : okB (pairsL i j A B) ∧ absN (pairsL i j A B) ≤ 4611686018427387904 := by
  unfold manyOk at hm
  simp only [Bool.and_eq_true, decide_eq_true_eq] at hm
  refine ⟨⟨by omega, fun c hc => ?_⟩, ?_⟩
  · have hf := List.all_eq_true.1 hm.2 c hc
    obtain ⟨h1, h2⟩ := pairOk_iff.1 hf
    have h3 := fitsN_iff.1 h2
    obtain ⟨a, ha, b, hb, _, rfl⟩ := pairs_mem hc
    refine ⟨⟨by omega, fun v hv => ?_⟩, ⟨by omega, by omega⟩⟩
    rcases List.mem_append.1 hv with hv | hv
    · exact (hA.2 a ha).1.2 v hv
    · exact (hB.2 b hb).1.2 v hv
  · have := absN_le (b := pairsL i j A B) (m := 1000000000) fun c hc => by
      have h2 := fitsN_iff.1 (pairOk_iff.1 (List.all_eq_true.1 hm.2 c hc)).2
      omega
    have h4 : (pairsL i j A B).length * 1000000000 ≤ 10000 * 1000000000 := Nat.mul_le_mul_right _ hm.1
    omega

end
end Go.Proofs.YtikmahlogjcieaaGreat

set_option linter.unusedVariables false
set_option linter.unusedSimpArgs false
namespace Go.Proofs.YtikmahlogjcieaaGreat
open Go Go.Pu

theorem sum_may {l : List Cnt} (hr : ∀ c ∈ l, mayR c.row = true) (hn : absN l ≤ 1000000000) : mayB (sumB l) = true :=
  (sumB_may hr).2 fun c hc => by
    have h1 := sumB_n hc
    have h2 := cnt_abs l c.row
    exact fitsN_iff.2 (by omega)

theorem app_row {A B : List Cnt} (hA : mayB A = true) (hB : mayB B = true) : ∀ c ∈ A ++ B, mayR c.row = true := fun c hc => by
  rcases List.mem_append.1 hc with hc | hc
  · exact mayB_row hA hc
  · exact mayB_row hB hc

theorem both_may {A B : List Cnt} (hA : mayB A = true) (hB : mayB B = true) (h : absN A + absN B ≤ 1000000000) : mayB (sumB (A ++ B)) = true :=
  sum_may (app_row hA hB) (by rw [absN_app]; exact h)

theorem both_eq {P Q S : List Cnt} (hS : canon S) (h : ∀ r, cnt S r = cnt P r + cnt Q r) : S = sumB (P ++ Q) := sumB_eq hS fun r => by rw [h, cnt_app]

theorem mayC {b : List Cnt} (h : mayB b = true) : canon b := mayB_canon h

/-! picks -/

/-! changes -/

def deltaV (w : List UInt8) (i j : Int) (A dA B dB : List Cnt) : List Cnt × Int :=
  if mayB A = true ∧ mayB dA = true ∧ mayB B = true ∧ mayB dB = true then
    if w = [] then (dA, 0) else
    if (prodV w i j dA B).2 ≠ 0 ∨ (prodV w i j A dB).2 ≠ 0 ∨ (prodV w i j dA dB).2 ≠ 0 then ([], 100) else
    let s := sumB ((prodV w i j dA B).1 ++ (prodV w i j A dB).1 ++ (prodV w i j dA dB).1)
    if mayB s = true then (s, 0) else ([], 100)
  else ([], 1)

theorem deltaV_cnt {w : List UInt8} {i j : Int} {A dA B dB : List Cnt} (hw : w ≠ []) (h : (deltaV w i j A dA B dB).2 = 0) (r : List Val) :
    cnt (deltaV w i j A dA B dB).1 r = cnt (pairsL i j dA B) r + cnt (pairsL i j A dB) r + cnt (pairsL i j dA dB) r ∧ mayB (deltaV w i j A dA B dB).1 = true := by
  unfold deltaV at h ⊢
  by_cases hm : mayB A = true ∧ mayB dA = true ∧ mayB B = true ∧ mayB dB = true
  · rw [if_pos hm, if_neg hw] at h ⊢
    by_cases he : (prodV w i j dA B).2 ≠ 0 ∨ (prodV w i j A dB).2 ≠ 0 ∨ (prodV w i j dA dB).2 ≠ 0
    · rw [if_pos he] at h; cases h
    · rw [if_neg he] at h ⊢
      simp only at h ⊢
      by_cases hs : mayB (sumB ((prodV w i j dA B).1 ++ (prodV w i j A dB).1 ++ (prodV w i j dA dB).1)) = true
      · rw [if_pos hs]
        have h1 : (prodV w i j dA B).2 = 0 := by simpa using fun x => he (.inl x)
        have h2 : (prodV w i j A dB).2 = 0 := by simpa using fun x => he (.inr (.inl x))
        have h3 : (prodV w i j dA dB).2 = 0 := by simpa using fun x => he (.inr (.inr x))
        refine ⟨?_, hs⟩
        rw [sumB_cnt, cnt_app, cnt_app, prodV_ok hw hm.2.1 hm.2.2.1 h1, prodV_ok hw hm.1 hm.2.2.2 h2, prodV_ok hw hm.2.1 hm.2.2.2 h3, sumB_cnt, sumB_cnt, sumB_cnt]
      · rw [if_neg hs] at h; cases h
  · rw [if_neg hm] at h; cases h

theorem deltaV_may (w : List UInt8) (i j : Int) (A dA B dB : List Cnt) : mayB (deltaV w i j A dA B dB).1 = true := by
  unfold deltaV
  split
  · rename_i h
    split
    · exact h.2.1
    · split
      · exact mayB_nil
      · simp only
        split
        · rename_i hs; exact hs
        · exact mayB_nil
  · exact mayB_nil

def thenW (f : List Val → Bool × Int) (p : List Cnt × Int) : List Cnt × Int := if p.2 ≠ 0 then ([], p.2) else whereV f p.1

theorem thenW_ok {f : List Val → Bool × Int} {p : List Cnt × Int} (hm : mayB p.1 = true) (h : (thenW f p).2 = 0) : p.2 = 0 ∧ (thenW f p).1 = keepB (fun r => (f r).1) p.1 ∧ ∀ c ∈ p.1, (f c.row).2 = 0 := by
  unfold thenW at h ⊢
  split
  · rename_i h1; rw [if_pos h1] at h; exact absurd h h1
  · rename_i h1
    rw [if_neg h1] at h
    unfold whereV at h ⊢
    rw [if_pos hm] at h ⊢
    exact ⟨by simpa using h1, whereF_eq h, whereF_ok.1 h⟩

theorem thenW_err {f : List Val → Bool × Int} {p : List Cnt × Int} (h : (thenW f p).2 ≠ 0) : (thenW f p).1 = [] := by
  unfold thenW at h ⊢
  split
  · rfl
  · rename_i h1
    rw [if_neg h1] at h
    unfold whereV at h ⊢
    split
    · rename_i hm; rw [if_pos hm] at h; exact (whereF_nil h).1
    · rfl

theorem thenW_may {f : List Val → Bool × Int} {p : List Cnt × Int} (hm : mayB p.1 = true) : mayB (thenW f p).1 = true := by
  by_cases h : (thenW f p).2 = 0
  · rw [(thenW_ok hm h).2.1]; exact keep_may hm
  · rw [thenW_err h]; exact mayB_nil

section
variable {w : List UInt8} {i j : Int} {f : List Val → Bool × Int} {A dA B dB : List Cnt}

theorem prodV_cnt (hw : w ≠ []) (hA : mayB A = true) (hB : mayB B = true) (h : (prodV w i j A B).2 = 0) (r : List Val) : cnt (prodV w i j A B).1 r = cnt (pairsL i j A B) r := by
  rw [prodV_ok hw hA hB h, sumB_cnt]

theorem delta_cnt (hA : mayB A = true) (hB : mayB B = true) (hdA : mayB dA = true) (hdB : mayB dB = true) (sA : mayB (sumB (A ++ dA)) = true) (sB : mayB (sumB (B ++ dB)) = true) (h1 : (deltaV w i j A dA B dB).2 = 0) (h2 : (prodV w i j A B).2 = 0)
    (h3 : (prodV w i j (sumB (A ++ dA)) (sumB (B ++ dB))).2 = 0) (r : List Val) : cnt (prodV w i j (sumB (A ++ dA)) (sumB (B ++ dB))).1 r = cnt (prodV w i j A B).1 r + cnt (deltaV w i j A dA B dB).1 r := by
  by_cases hw : w = []
  · simp only [prodV, deltaV, sA, sB, hA, hB, hdA, hdB, hw, and_self, if_true]
    rw [sumB_cnt, cnt_app]
  · rw [prodV_cnt hw sA sB h3, prodV_cnt hw hA hB h2, (deltaV_cnt hw h1 r).1, pairs_congr i j (A' := A ++ dA) (B' := B ++ dB) (fun r => sumB_cnt _ r) (fun r => sumB_cnt _ r), pairs_addL, pairs_addR, pairs_addR]
    omega

theorem delta_adds (hA : mayB A = true) (hB : mayB B = true) (hdA : mayB dA = true) (hdB : mayB dB = true) (sA : mayB (sumB (A ++ dA)) = true) (sB : mayB (sumB (B ++ dB)) = true) (h1 : (thenW f (deltaV w i j A dA B dB)).2 = 0)
    (h2 : (thenW f (prodV w i j A B)).2 = 0) (h3 : (thenW f (prodV w i j (sumB (A ++ dA)) (sumB (B ++ dB)))).2 = 0) :
    (thenW f (prodV w i j (sumB (A ++ dA)) (sumB (B ++ dB)))).1 = sumB ((thenW f (prodV w i j A B)).1 ++ (thenW f (deltaV w i j A dA B dB)).1) := by
  obtain ⟨a1, a2, a3⟩ := thenW_ok (deltaV_may w i j A dA B dB) h1
  obtain ⟨b1, b2, b3⟩ := thenW_ok (prodV_may w i j A B) h2
  obtain ⟨c1, c2, c3⟩ := thenW_ok (prodV_may w i j (sumB (A ++ dA)) (sumB (B ++ dB))) h3
  rw [a2, b2, c2]
  refine both_eq (keep_canon (mayC (prodV_may ..))) fun r => ?_
  rw [keep_cnt, keep_cnt, keep_cnt, delta_cnt hA hB hdA hdB sA sB a1 b1 c1]
  split <;> omega

end

end Go.Proofs.YtikmahlogjcieaaGreat

set_option linter.unusedVariables false
set_option linter.unusedSimpArgs false
namespace Go.Proofs.YtikmahlogjcieaaGreat
open Go Go.Pu

structure Vw where
  n0 : List UInt8
  n1 : List UInt8
  w : List UInt8
  i : Int
  j : Int
  wh : List Nd
  pk : List Int
  g : Bool
  ag : List (List PV)

def Vw.ok (v : Vw) : Prop := (∀ d ∈ v.wh, d.ok) ∧ v.wh.length ≤ 140737488355328 ∧ v.pk.length ≤ 140737488355328

theorem ok01 : ((0 : Nat) == 1) = false := rfl
theorem plus_one {A : List Cnt} (h : mayB A = true) : plusB [A] = A := by
  rw [plusB_may_iff (by simpa using h)]
  rw [show [A].flatten = A by simp, sumB_self (mayC h), if_pos h]

theorem prodV_okB {w : List UInt8} {i j : Int} {A B : List Cnt} (hA : okB A) (hB : okB B) : okB (prodV w i j A B).1 := by
  unfold prodV
  split
  · rename_i hm
    split
    · exact hA
    · split
      · rename_i h
        obtain ⟨h1, h2⟩ := pairs_okB i j hA hB hm.1 hm.2 h.1
        exact sumB_okB h1 h2
      · exact ⟨by simp, fun c hc => by cases hc⟩
  · exact ⟨by simp, fun c hc => by cases hc⟩

theorem prodV_len {w : List UInt8} {i j : Int} {A B : List Cnt} : (prodV w i j A B).1.length ≤ A.length + 10000 := by
  unfold prodV
  split
  · split
    · simp only; omega
    · split
      · rename_i h
        have h1 := sumB_len (pairsL i j A B)
        have h2 := h.1
        unfold manyOk at h2
        simp only [Bool.and_eq_true, decide_eq_true_eq] at h2
        simp only
        omega
      · simp
  · simp

theorem Product_res (n0 n1 w : List UInt8) (i j : Int) (l5 l6 : List (List PV)) (b7 : Bool) (l8 : List (List PV)) (A B : List Cnt) (hA : okB A) (hB : okB B) (h0 : A.length ≤ 1000000) (k0 : B.length ≤ 1000000) :
    (m_query_Product [.s (bs n0), .s (bs n1), .s (bs w), .i i, .i j, .l l5, .l l6, .b b7, .l l8, .l (A.map Cnt.e), .l (B.map Cnt.e)]).res = some (0, [.i (prodV w i j A B).2, .l ((prodV w i j A B).1.map Cnt.e)]) := by
  have h1 := bag_May_res A hA
  have h2 := bag_May_res B hB
  by_cases mA : mayB A = true
  · by_cases mB : mayB B = true
    · by_cases hw : w = []
      · have h3 := bag_Plus_res [A] (by simp) (by simpa using h0) (by simpa using hA)
        rw [plus_one mA] at h3
        have h4 : [A].map beE = [[PV.lst 54 (A.map Cnt.e)]] := rfl
        rw [h4] at h3
        simp only [m_query_Product, h1, h2, mA, mB, ok_some', out_some, res_test, res_stop, uB_0, Bool.not_true, Bool.false_eq_true, if_false, beq_self_eq_true, if_true, bs_toList, hw, h3, uL_0, prodV, and_self]
      · obtain ⟨es, h3, h4⟩ := index_res B hB mB k0 j
        have h5 := prod_loop (bs n0) (bs n1) (bs w) i j l5 l6 b7 l8 A B hA hB mA mB h0 k0 es h4
        have hw' : (w == []) = false := by simpa using hw
        by_cases hm : manyOk (pairsL i j A B) = true
        · rw [if_pos hm] at h5
          obtain ⟨p1, p2⟩ := pairs_okB i j hA hB mA mB hm
          have h6 := Sum_res _ p1 p2
          have h7 := bag_May_res _ (sumB_okB p1 p2)
          simp only [m_query_Product, h1, h2, mA, mB, ok_some', out_some, res_test, res_stop, uB_0, Bool.not_true, Bool.false_eq_true, if_false, beq_self_eq_true, if_true, bs_toList, hw', h3, uL_0, ln_map, h5, ok01, h6, h7, prodV, and_self, hw, hm, true_and]
          by_cases hs : mayB (sumB (pairsL i j A B)) = true
          · simp [hs]
          · simp [hs]
        · rw [if_neg hm] at h5
          simp only [m_query_Product, h1, h2, mA, mB, ok_some', out_some, res_test, res_stop, uB_0, Bool.not_true, Bool.false_eq_true, if_false, beq_self_eq_true, if_true, bs_toList, hw', h3, uL_0, uI_0, ln_map, h5, prodV, and_self, hw, hm, false_and]
          rfl
    · have mB' : mayB B = false := by simpa using mB
      simp only [m_query_Product, h1, h2, mA, mB', ok_some', out_some, res_test, res_stop, uB_0, Bool.not_true, Bool.not_false, Bool.false_eq_true, if_false, beq_self_eq_true, if_true, prodV, and_false]
      rfl
  · have mA' : mayB A = false := by simpa using mA
    simp only [m_query_Product, h1, mA', ok_some', out_some, res_test, res_stop, uB_0, Bool.not_false, Bool.false_eq_true, if_false, beq_self_eq_true, if_true, prodV, false_and]
    rfl

/-! what stays -/

theorem whereF_cons {f : List Val → Bool × Int} {c : Cnt} {B : List Cnt} (h : (f c.row).2 = 0) : whereF f (c :: B) = if (whereF f B).2 ≠ 0 then ([], (whereF f B).2) else ((if (f c.row).1 = true then [c] else []) ++ (whereF f B).1, 0) := by
  rw [whereF, if_neg fun hh => hh h]
theorem whereF_bad {f : List Val → Bool × Int} {c : Cnt} {B : List Cnt} (h : (f c.row).2 ≠ 0) : whereF f (c :: B) = ([], (f c.row).2) := by
  rw [whereF, if_pos h]

theorem where_loop (s0 s1 s2 : ByteArray) (i j : Int) (E : List Nd) (hE : ∀ d ∈ E, d.ok) (l9 : List (List PV)) (b10 : Bool) (l11 : List (List PV)) (B : List Cnt) (hB : okB B) (h0 : B.length ≤ 1000000) : ∀ m p (O : List Cnt), B.length - p = m → p ≤ B.length → O.length ≤ p →
    lres rd_query_Where_11_5 [.l (B.map Cnt.e), .i (B.length : Nat), .i (p : Nat), .s s0, .s s1, .s s2, .i i, .i j, .l (E.map Nd.e), .l l9, .b b10, .l l11, .l (O.map Cnt.e)] =
      if (whereF (trueV E) (B.drop p)).2 = 0 then some (1, [.l ((O ++ (whereF (trueV E) (B.drop p)).1).map Cnt.e)]) else some (0, [.i (whereF (trueV E) (B.drop p)).2]) := by
  intro m
  induction m with
  | zero =>
    intro p O hp hle hO
    have : p = B.length := by omega
    subst this
    rw [List.drop_length]
    simp only [whereF, if_true, List.append_nil]
    exact lres_stop (by simp [rd_query_Where_11_5])
  | succ m ih =>
    intro p O hp hle hO
    have h : p < B.length := by omega
    have hc := hB.2 B[p] (List.getElem_mem h)
    have h1 := True_res E hE B[p].row hc.1
    have row0 : cL B[p].e 0 = re B[p].row := rfl
    have row1 : cI B[p].e 1 = B[p].n := rfl
    rw [List.drop_eq_getElem_cons h]
    by_cases he : (trueV E B[p].row).2 = 0
    · have heb : ((0 : Int) != 0) = false := rfl
      by_cases ht : (trueV E B[p].row).1 = true
      · have r1 : (0 + (re B[p].row).length) * 32 ≤ 140737488355328 := by have := hc.1.1; rw [re_len]; omega
        have r2 : ((O.map Cnt.e).length + 1) * 32 ≤ 140737488355328 := by rw [List.length_map]; omega
        have hO2 : O.map Cnt.e ++ [[PV.lst 56 (re B[p].row), pI B[p].n]] = (O ++ [B[p]]).map Cnt.e := by rw [List.map_append]; rfl
        have hnext : (rd_query_Where_11_5 [.l (B.map Cnt.e), .i (B.length : Nat), .i (p : Nat), .s s0, .s s1, .s s2, .i i, .i j, .l (E.map Nd.e), .l l9, .b b10, .l l11, .l (O.map Cnt.e)]).val =
            some (.next [.l (B.map Cnt.e), .i (B.length : Nat), .i ((p + 1 : Nat) : Int), .s s0, .s s1, .s s2, .i i, .i j, .l (E.map Nd.e), .l l9, .b b10, .l l11, .l ((O ++ [B[p]]).map Cnt.e)]) := by
          simp only [rd_query_Where_11_5, rt_test, rt_next, rt_stop, el_map _ _ h, ln_map, inR_cast, Int.ofNat_lt, h, decide_true, if_true, row0, row1, h1, ok_some', out_some, uI_0, uI_s, uB_0, he, heb, ht, beq_self_eq_true, Bool.false_eq_true, if_false, r1, r2, hO2, w64_succ (i := p) (by omega)]
        rw [lres_next hnext, ih (p + 1) _ (by omega) (by omega) (by simp; omega)]
        rw [whereF_cons he, if_pos ht]
        by_cases hr : (whereF (trueV E) (B.drop (p + 1))).2 = 0
        · simp [hr]
        · simp [hr]
      · have ht' : (trueV E B[p].row).1 = false := by simpa using ht
        have hnext : (rd_query_Where_11_5 [.l (B.map Cnt.e), .i (B.length : Nat), .i (p : Nat), .s s0, .s s1, .s s2, .i i, .i j, .l (E.map Nd.e), .l l9, .b b10, .l l11, .l (O.map Cnt.e)]).val =
            some (.next [.l (B.map Cnt.e), .i (B.length : Nat), .i ((p + 1 : Nat) : Int), .s s0, .s s1, .s s2, .i i, .i j, .l (E.map Nd.e), .l l9, .b b10, .l l11, .l (O.map Cnt.e)]) := by
          simp only [rd_query_Where_11_5, rt_test, rt_next, rt_stop, el_map _ _ h, ln_map, inR_cast, Int.ofNat_lt, h, decide_true, if_true, row0, row1, h1, ok_some', out_some, uI_0, uI_s, uB_0, he, heb, ht', beq_self_eq_true, Bool.false_eq_true, if_false, w64_succ (i := p) (by omega)]
        rw [lres_next hnext, ih (p + 1) _ (by omega) (by omega) (by omega)]
        rw [whereF_cons he, if_neg ht]
        by_cases hr : (whereF (trueV E) (B.drop (p + 1))).2 = 0
        · simp [hr]
        · simp [hr]
    · have heb : ((trueV E B[p].row).2 != 0) = true := by simpa using he
      have hstop : (rd_query_Where_11_5 [.l (B.map Cnt.e), .i (B.length : Nat), .i (p : Nat), .s s0, .s s1, .s s2, .i i, .i j, .l (E.map Nd.e), .l l9, .b b10, .l l11, .l (O.map Cnt.e)]).val = some (.stop 0 [.i (trueV E B[p].row).2]) := by
        simp only [rd_query_Where_11_5, rt_test, rt_next, rt_stop, el_map _ _ h, ln_map, inR_cast, Int.ofNat_lt, h, decide_true, if_true, row0, row1, h1, ok_some', out_some, uI_0, uI_s, uB_0, heb, beq_self_eq_true]
      rw [lres_stop hstop, whereF_bad he, if_neg he]

theorem Where_res (n0 n1 w : List UInt8) (i j : Int) (E : List Nd) (hE : ∀ d ∈ E, d.ok) (l6 : List (List PV)) (b7 : Bool) (l8 : List (List PV)) (B : List Cnt) (hB : okB B) (h0 : B.length ≤ 1000000) :
    (m_query_Where [.s (bs n0), .s (bs n1), .s (bs w), .i i, .i j, .l (E.map Nd.e), .l l6, .b b7, .l l8, .l (B.map Cnt.e)]).res = some (0, [.i (whereV (trueV E) B).2, .l ((whereV (trueV E) B).1.map Cnt.e)]) := by
  have h1 := bag_May_res B hB
  by_cases mB : mayB B = true
  · have h2 := where_loop (bs n0) (bs n1) (bs w) i j E hE l6 b7 l8 B hB h0 B.length 0 [] (by omega) (by omega) (by simp)
    simp only [Int.natCast_zero, List.drop_zero, List.map_nil, List.nil_append] at h2
    by_cases he : (whereF (trueV E) B).2 = 0
    · rw [if_pos he] at h2
      simp only [m_query_Where, h1, mB, ok_some', out_some, res_test, res_stop, uB_0, Bool.not_true, Bool.false_eq_true, if_false, beq_self_eq_true, if_true, ln_map, h2, ok01, uL_0, whereV, he]
    · rw [if_neg he] at h2
      simp only [m_query_Where, h1, mB, ok_some', out_some, res_test, res_stop, uB_0, Bool.not_true, Bool.false_eq_true, if_false, beq_self_eq_true, if_true, ln_map, h2, uI_0, whereV, (whereF_nil he).1, List.map_nil]
  · have mB' : mayB B = false := by simpa using mB
    simp only [m_query_Where, h1, mB', ok_some', out_some, res_test, res_stop, uB_0, Bool.not_false, Bool.false_eq_true, if_false, beq_self_eq_true, if_true, whereV, List.map_nil]

theorem whereV_sub {f : List Val → Bool × Int} {B : List Cnt} : (whereV f B).1 = [] ∨ ((whereV f B).2 = 0 ∧ mayB B = true ∧ (whereV f B).1 = keepB (fun r => (f r).1) B) := by
  unfold whereV
  by_cases m : mayB B = true
  · rw [if_pos m]
    by_cases he : (whereF f B).2 = 0
    · exact .inr ⟨he, m, whereF_eq he⟩
    · exact .inl (whereF_nil he).1
  · rw [if_neg m]; exact .inl rfl

theorem keep_okB {p : List Val → Bool} {B : List Cnt} (h : okB B) : okB (keepB p B) := ⟨Nat.le_trans (List.length_filter_le _ _) h.1, fun c hc => h.2 c (List.mem_filter.1 hc).1⟩
theorem keep_len (p : List Val → Bool) (B : List Cnt) : (keepB p B).length ≤ B.length := List.length_filter_le _ _

theorem whereV_okB {f : List Val → Bool × Int} {B : List Cnt} (h : okB B) : okB (whereV f B).1 ∧ (whereV f B).1.length ≤ B.length := by
  rcases whereV_sub (f := f) (B := B) with e | ⟨_, _, e⟩
  · rw [e]; exact ⟨⟨by simp, fun c hc => by cases hc⟩, by simp⟩
  · rw [e]; exact ⟨keep_okB h, keep_len _ _⟩

/-! picks -/

end Go.Proofs.YtikmahlogjcieaaGreat

set_option linter.unusedVariables false
set_option linter.unusedSimpArgs false
namespace Go.Proofs.YtikmahlogjcieaaGreat
open Go Go.Pu

def low3 (b : List Cnt) : Bool := b.all fun c => decide (-1000 ≤ c.n) && decide (c.n ≤ 1000)
def lowS (b : List Cnt) : Bool := low3 b && smallB b

theorem Low_res (b : List Cnt) (hb : okB b) : (m_R10_Low [.l (b.map Cnt.e)]).res = some (0, [.b (lowS b)]) := by
  have hlen := hb.1
  have h := loop_all' b (rd := rd_R10_Low_48_2) (fun i => [.l (b.map Cnt.e), .i (i : Nat)]) (fun c => decide (-1000 ≤ c.n) && decide (c.n ≤ 1000)) 0 1 [.b false] [.l (b.map Cnt.e)]
    (by simp [rd_R10_Low_48_2]) (by
    intro i h
    have row1 : cI b[i].e 1 = b[i].n := rfl
    simp only [rd_R10_Low_48_2, rt_test, rt_next, rt_stop, el_map _ _ h, ln_map, inR_cast, Int.ofNat_lt, h, decide_true, if_true, row1, w64_succ (i := i) (by omega)]
    by_cases c1 : b[i].n > 1000
    · have : ¬ b[i].n ≤ 1000 := by omega
      simp only [c1, this, decide_true, decide_false, Bool.and_false, Bool.false_eq_true, if_false, if_true]
    · by_cases c2 : b[i].n < -1000
      · have : ¬ -1000 ≤ b[i].n := by omega
        simp only [c1, c2, this, decide_true, decide_false, Bool.false_and, Bool.false_eq_true, if_false, if_true]
      · have c3 : b[i].n ≤ 1000 := by omega
        have c4 : -1000 ≤ b[i].n := by omega
        simp only [c1, c2, c3, c4, decide_true, decide_false, Bool.and_self, Bool.false_eq_true, if_false, if_true])
  simp only [Int.natCast_zero] at h
  have h2 := R05_Small_res b hb
  unfold lowS low3
  by_cases e : (b.all fun c => decide (-1000 ≤ c.n) && decide (c.n ≤ 1000)) = true
  · rw [if_pos e] at h
    simp only [m_R10_Low, h, ok_some', out_some, res_test, res_stop, ok01, Bool.false_eq_true, if_false, beq_self_eq_true, if_true, uL_0, h2, uB_0, e, Bool.true_and]
  · have e' : (b.all fun c => decide (-1000 ≤ c.n) && decide (c.n ≤ 1000)) = false := by simpa using e
    rw [if_neg e] at h
    simp only [m_R10_Low, h, ok_some', out_some, res_test, res_stop, beq_self_eq_true, if_true, uB_0, e', Bool.false_and]

theorem lowS_of {b : List Cnt} (h : lowS b = true) : b.length ≤ 60 ∧ absN b ≤ 60000 ∧ ∀ c ∈ b, -1000 ≤ c.n ∧ c.n ≤ 1000 := by
  unfold lowS at h
  rw [Bool.and_eq_true] at h
  have h1 := smallB_len h.2
  have h2 : ∀ c ∈ b, -1000 ≤ c.n ∧ c.n ≤ 1000 := fun c hc => by
    have := List.all_eq_true.1 h.1 c hc
    simpa using this
  have h3 := absN_le (b := b) (m := 1000) fun c hc => by have := h2 c hc; omega
  have h4 : b.length * 1000 ≤ 60 * 1000 := Nat.mul_le_mul_right _ h1
  exact ⟨h1, by omega, h2⟩

theorem RAt_res (r : List Val) (n : Int) : (m_R10_At [.l (re r), .i n]).res = some (0, [.i (atV r n).k, .i (atV r n).n, .s (bs (atV r n).s)]) := by
  unfold atV
  by_cases h1 : n < 0
  · have : ¬ (0 ≤ n ∧ n < (r.length : Int)) := by omega
    simp [m_R10_At, h1, this, nul, bs_nil]
  · by_cases h2 : n ≥ (r.length : Int)
    · have : ¬ (0 ≤ n ∧ n < (r.length : Int)) := by omega
      simp [m_R10_At, h1, h2, this, nul, bs_nil]
    · have h3 : 0 ≤ n ∧ n < (r.length : Int) := by omega
      have hk : n.toNat < r.length := by omega
      have e1 : el (re r) n = Val.e r[n.toNat] := by
        unfold el re
        rw [List.getD, List.getElem?_map, List.getElem?_eq_getElem hk]
        rfl
      have e2 : r.getD n.toNat nul = r[n.toNat] := by rw [List.getD, List.getElem?_eq_getElem hk]; rfl
      have e3 : inR n (r.length : Int) = true := inR_iff.2 h3
      rw [if_pos h3, e2]
      simp [m_R10_At, h1, h2, e3, e1, Val.e]

/-! changes of products -/

theorem dmay_res (ls : List (List Cnt)) (h0 : ls.length ≤ 1000000) (hl : ∀ b ∈ ls, okB b) : (m_delta_may [.l (ls.map beE)]).res = some (0, [.b (ls.all mayB)]) := by
  have h := loop_all' ls (rd := rd_delta_may_50_2) (fun i => [.l (ls.map beE), .i (ls.length : Nat), .i (i : Nat)]) mayB 0 1 [.b false] []
    (by simp [rd_delta_may_50_2]) (by
    intro i h
    have h1 := bag_May_res ls[i] (hl _ (List.getElem_mem h))
    have row0 : cL (beE ls[i]) 0 = ls[i].map Cnt.e := rfl
    simp only [rd_delta_may_50_2, rt_test, rt_next, rt_stop, el_map _ _ h, ln_map, inR_cast, Int.ofNat_lt, h, decide_true, if_true, row0, h1, ok_some', out_some, uB_0, beq_self_eq_true, w64_succ (i := i) (by omega)]
    by_cases hm : mayB ls[i] = true
    · simp [hm]
    · simp [hm])
  simp only [Int.natCast_zero] at h
  by_cases e : ls.all mayB = true
  · rw [if_pos e] at h
    simp only [m_delta_may, ln_map, h, ok_some', out_some, res_test, res_stop, ok01, Bool.false_eq_true, if_false, beq_self_eq_true, if_true, e]
  · have e' : ls.all mayB = false := by simpa using e
    rw [if_neg e] at h
    simp only [m_delta_may, ln_map, h, ok_some', out_some, res_test, res_stop, beq_self_eq_true, if_true, uB_0, e']

def twoE (x : List Cnt × List Cnt) : List PV := [.lst 54 (x.1.map Cnt.e), .lst 54 (x.2.map Cnt.e)]

theorem dpart (n0 n1 w : List UInt8) (i j : Int) (l7 l8 : List (List PV)) (b9 : Bool) (l10 : List (List PV)) (T : List (List Cnt × List Cnt)) (hT : T.length ≤ 1000) (hok : ∀ x ∈ T, okB x.1 ∧ okB x.2 ∧ x.1.length ≤ 1000000 ∧ x.2.length ≤ 1000000) :
    lres rd_delta_Product_18_7 [.i (T.length : Nat), .i 0, .s (bs n0), .s (bs n1), .s (bs w), .i i, .i j, .l l7, .l l8, .b b9, .l l10, .l [], .l (T.map twoE)] =
      if (T.all fun x => decide ((prodV w i j x.1 x.2).2 = 0)) = true then some (1, [.l ((T.map fun x => (prodV w i j x.1 x.2).1).map beE)]) else some (0, [.i 100]) := by
  have h := loop_all' T (rd := rd_delta_Product_18_7) (fun p => [.i (T.length : Nat), .i (p : Nat), .s (bs n0), .s (bs n1), .s (bs w), .i i, .i j, .l l7, .l l8, .b b9, .l l10, .l (((T.take p).map fun x => (prodV w i j x.1 x.2).1).map beE), .l (T.map twoE)])
    (fun x => decide ((prodV w i j x.1 x.2).2 = 0)) 0 1 [.i 100] [.l ((T.map fun x => (prodV w i j x.1 x.2).1).map beE)]
    (by simp [rd_delta_Product_18_7]) (by
    intro p hp
    obtain ⟨o1, o2, o3, o4⟩ := hok _ (List.getElem_mem hp)
    have h1 := Product_res n0 n1 w i j l7 l8 b9 l10 T[p].1 T[p].2 o1 o2 o3 o4
    have row0 : cL (twoE T[p]) 0 = T[p].1.map Cnt.e := rfl
    have row1 : cL (twoE T[p]) 1 = T[p].2.map Cnt.e := rfl
    have hlt : Int.toNat (p : Int) < (T.map twoE).length := by simpa using hp
    have r1 : ((((T.take p).map fun x => (prodV w i j x.1 x.2).1).map beE).length + 1) * 24 ≤ 140737488355328 := by
      simp only [List.length_map, List.length_take]; omega
    by_cases hz : (prodV w i j T[p].1 T[p].2).2 = 0
    · have hb : ((0 : Int) != 0) = false := rfl
      have hn : ((T.take p).map fun x => (prodV w i j x.1 x.2).1).map beE ++ [[PV.lst 54 ((prodV w i j T[p].1 T[p].2).1.map Cnt.e)]] = ((T.take (p + 1)).map fun x => (prodV w i j x.1 x.2).1).map beE := by
        rw [take_one T hp]; simp only [List.map_append]; rfl
      simp only [rd_delta_Product_18_7, rt_test, rt_next, rt_stop, el_map _ _ hp, ln_map, inR_cast, Int.ofNat_lt, hp, hlt, decide_true, if_true, row0, row1, h1, ok_some', out_some, uI_0, uL_0, uL_s, hz, hb, beq_self_eq_true, Bool.false_eq_true, if_false, r1, hn, w64_succ (i := p) (by omega)]
    · have hb : ((prodV w i j T[p].1 T[p].2).2 != 0) = true := by simpa using hz
      have he : (prodV w i j T[p].1 T[p].2).2 = 100 := by rw [prodV_err hz]
      rw [he] at hb
      simp only [rd_delta_Product_18_7, rt_test, rt_next, rt_stop, el_map _ _ hp, ln_map, inR_cast, Int.ofNat_lt, hp, hlt, decide_true, if_true, row0, row1, h1, ok_some', out_some, uI_0, he, hb, beq_self_eq_true]
      rw [if_neg (by simp)])
  simp only [List.take_zero, Int.natCast_zero, List.map_nil] at h
  exact h

theorem dflat (ls : List (List Cnt)) (h0 : ls.length ≤ 1000000) (h1 : ls.flatten.length ≤ 10000000) :
    lres rd_delta_Product_18_16 [.i (ls.length : Nat), .i 0, .l [], .l (ls.map beE)] = some (0, [.l (ls.flatten.map Cnt.e)]) := by
  have h := loop_acc (rd := rd_delta_Product_18_16) ls.length (fun i => [.i (ls.length : Nat), .i (i : Nat), .l ((ls.take i).flatten.map Cnt.e), .l (ls.map beE)]) (some (0, [.l (ls.flatten.map Cnt.e)]))
    (lres_stop (by simp [rd_delta_Product_18_16])) (by
    intro i h
    have row0 : cL (beE ls[i]) 0 = ls[i].map Cnt.e := rfl
    have hlt : Int.toNat (i : Int) < (ls.map beE).length := by simpa using h
    have e1 := flat_take ls h
    have e2 := flat_le ls (i + 1)
    have r1 : (((ls.take i).flatten.map Cnt.e).length + (ls[i].map Cnt.e).length) * 32 ≤ 140737488355328 := by
      rw [e1, List.length_append] at e2
      simp only [List.length_map]; omega
    have hn : (ls.take i).flatten.map Cnt.e ++ ls[i].map Cnt.e = (ls.take (i + 1)).flatten.map Cnt.e := by rw [e1, List.map_append]
    simp only [rd_delta_Product_18_16, rt_test, rt_next, rt_stop, el_map _ _ h, ln_map, inR_cast, Int.ofNat_lt, h, hlt, decide_true, if_true, row0, r1, hn, w64_succ (i := i) (by omega)])
  simp only [List.take_zero, Int.natCast_zero, List.flatten_nil, List.map_nil] at h
  exact h

theorem prodV_n {w : List UInt8} {i j : Int} {A B : List Cnt} : ∀ c ∈ (prodV w i j A B).1, c.n.natAbs ≤ 1000000000 := fun c hc => mayB_n (prodV_may w i j A B) hc

theorem dsum_ok {w : List UInt8} {i j : Int} {A dA B dB : List Cnt} (hA : okB A) (hdA : okB dA) (hB : okB B) (hdB : okB dB) (a0 : A.length ≤ 1000000) (a1 : dA.length ≤ 1000000) :
    okB ((prodV w i j dA B).1 ++ (prodV w i j A dB).1 ++ (prodV w i j dA dB).1) ∧ ((prodV w i j dA B).1 ++ (prodV w i j A dB).1 ++ (prodV w i j dA dB).1).length ≤ 4000000 ∧ absN ((prodV w i j dA B).1 ++ (prodV w i j A dB).1 ++ (prodV w i j dA dB).1) ≤ 4611686018427387904 := by
  have l1 := prodV_len (w := w) (i := i) (j := j) (A := dA) (B := B)
  have l2 := prodV_len (w := w) (i := i) (j := j) (A := A) (B := dB)
  have l3 := prodV_len (w := w) (i := i) (j := j) (A := dA) (B := dB)
  have hl : ((prodV w i j dA B).1 ++ (prodV w i j A dB).1 ++ (prodV w i j dA dB).1).length ≤ 4000000 := by simp only [List.length_append]; omega
  have hm : ∀ c ∈ (prodV w i j dA B).1 ++ (prodV w i j A dB).1 ++ (prodV w i j dA dB).1, c.n.natAbs ≤ 1000000000 ∧ c.ok := fun c hc => by
    rcases List.mem_append.1 hc with hc | hc
    · rcases List.mem_append.1 hc with hc | hc
      · exact ⟨prodV_n c hc, (prodV_okB hdA hB).2 c hc⟩
      · exact ⟨prodV_n c hc, (prodV_okB hA hdB).2 c hc⟩
    · exact ⟨prodV_n c hc, (prodV_okB hdA hdB).2 c hc⟩
  refine ⟨⟨by omega, fun c hc => (hm c hc).2⟩, hl, ?_⟩
  have h3 := absN_le (m := 1000000000) fun c hc => (hm c hc).1
  have h4 : ((prodV w i j dA B).1 ++ (prodV w i j A dB).1 ++ (prodV w i j dA dB).1).length * 1000000000 ≤ 4000000 * 1000000000 := Nat.mul_le_mul_right _ hl
  omega

theorem DProduct_res (n0 n1 w : List UInt8) (i j : Int) (l5 l6 : List (List PV)) (b7 : Bool) (l8 : List (List PV)) (A dA B dB : List Cnt) (hA : okB A) (hdA : okB dA) (hB : okB B) (hdB : okB dB) (a0 : A.length ≤ 1000000) (a1 : dA.length ≤ 1000000) (a2 : B.length ≤ 1000000) (a3 : dB.length ≤ 1000000) :
    (m_delta_Product [.s (bs n0), .s (bs n1), .s (bs w), .i i, .i j, .l l5, .l l6, .b b7, .l l8, .l (A.map Cnt.e), .l (dA.map Cnt.e), .l (B.map Cnt.e), .l (dB.map Cnt.e)]).res =
      some (0, [.i (deltaV w i j A dA B dB).2, .l ((deltaV w i j A dA B dB).1.map Cnt.e)]) := by
  have h1 := dmay_res [A, dA, B, dB] (by simp) (by
    intro b hb
    simp only [List.mem_cons, List.not_mem_nil, or_false] at hb
    rcases hb with rfl | rfl | rfl | rfl <;> assumption)
  have e1 : [A, dA, B, dB].map beE = [[PV.lst 54 (A.map Cnt.e)], [PV.lst 54 (dA.map Cnt.e)], [PV.lst 54 (B.map Cnt.e)], [PV.lst 54 (dB.map Cnt.e)]] := rfl
  rw [e1] at h1
  by_cases hm : mayB A = true ∧ mayB dA = true ∧ mayB B = true ∧ mayB dB = true
  · have hm' : [A, dA, B, dB].all mayB = true := by simp [hm]
    rw [hm'] at h1
    by_cases hw : w = []
    · have h3 := bag_Plus_res [dA] (by simp) (by simpa using a1) (by simpa using hdA)
      rw [plus_one hm.2.1] at h3
      have h4 : [dA].map beE = [[PV.lst 54 (dA.map Cnt.e)]] := rfl
      rw [h4] at h3
      simp only [m_delta_Product, h1, ok_some', out_some, res_test, res_stop, uB_0, Bool.not_true, Bool.false_eq_true, if_false, beq_self_eq_true, if_true, bs_toList, hw, h3, uL_0, deltaV, hm, and_self]
    · have hw' : (w == []) = false := by simpa using hw
      have h2 := dpart n0 n1 w i j l5 l6 b7 l8 [(dA, B), (A, dB), (dA, dB)] (by simp) (by
        intro x hx
        simp only [List.mem_cons, List.not_mem_nil, or_false] at hx
        rcases hx with rfl | rfl | rfl
        · exact ⟨hdA, hB, a1, a2⟩
        · exact ⟨hA, hdB, a0, a3⟩
        · exact ⟨hdA, hdB, a1, a3⟩)
      have e2 : [(dA, B), (A, dB), (dA, dB)].map twoE = [[PV.lst 54 (dA.map Cnt.e), PV.lst 54 (B.map Cnt.e)], [PV.lst 54 (A.map Cnt.e), PV.lst 54 (dB.map Cnt.e)], [PV.lst 54 (dA.map Cnt.e), PV.lst 54 (dB.map Cnt.e)]] := rfl
      rw [e2] at h2
      have e3 : (([(dA, B), (A, dB), (dA, dB)] : List (List Cnt × List Cnt)).length : Int) = 3 := rfl
      rw [e3] at h2
      by_cases hz : (prodV w i j dA B).2 = 0 ∧ (prodV w i j A dB).2 = 0 ∧ (prodV w i j dA dB).2 = 0
      · have hz' : ([(dA, B), (A, dB), (dA, dB)].all fun x => decide ((prodV w i j x.1 x.2).2 = 0)) = true := by simp [hz]
        rw [if_pos hz'] at h2
        have e4 : ([(dA, B), (A, dB), (dA, dB)].map fun x => (prodV w i j x.1 x.2).1) = [(prodV w i j dA B).1, (prodV w i j A dB).1, (prodV w i j dA dB).1] := rfl
        rw [e4] at h2
        obtain ⟨s1, s2, s3⟩ := dsum_ok (w := w) (i := i) (j := j) hA hdA hB hdB a0 a1
        have ef : [(prodV w i j dA B).1, (prodV w i j A dB).1, (prodV w i j dA dB).1].flatten = (prodV w i j dA B).1 ++ (prodV w i j A dB).1 ++ (prodV w i j dA dB).1 := by simp
        have h3 := dflat [(prodV w i j dA B).1, (prodV w i j A dB).1, (prodV w i j dA dB).1] (by simp) (by rw [ef]; omega)
        rw [ef] at h3
        have h4 := Sum_res _ s1 s3
        have h5 := bag_May_res _ (sumB_okB s1 s3)
        have hne : ¬ ((prodV w i j dA B).2 ≠ 0 ∨ (prodV w i j A dB).2 ≠ 0 ∨ (prodV w i j dA dB).2 ≠ 0) := by simp [hz]
        have hd : deltaV w i j A dA B dB = if mayB (sumB ((prodV w i j dA B).1 ++ (prodV w i j A dB).1 ++ (prodV w i j dA dB).1)) = true then (sumB ((prodV w i j dA B).1 ++ (prodV w i j A dB).1 ++ (prodV w i j dA dB).1), 0) else ([], 100) := by
          unfold deltaV
          rw [if_pos hm, if_neg hw, if_neg hne]
        rw [hd]
        simp only [m_delta_Product, h1, ok_some', out_some, res_test, res_stop, uB_0, Bool.not_true, Bool.false_eq_true, if_false, beq_self_eq_true, if_true, bs_toList, hw', h2, ok01, uL_0, ln_map, h3, h4, h5]
        by_cases hs : mayB (sumB ((prodV w i j dA B).1 ++ (prodV w i j A dB).1 ++ (prodV w i j dA dB).1)) = true
        · simp only [hs, Bool.not_true, Bool.false_eq_true, if_false, if_true]
        · have hs' : mayB (sumB ((prodV w i j dA B).1 ++ (prodV w i j A dB).1 ++ (prodV w i j dA dB).1)) = false := by simpa using hs
          simp only [hs', Bool.not_false, Bool.false_eq_true, if_false, if_true, List.map_nil]
      · have hz' : ¬ ([(dA, B), (A, dB), (dA, dB)].all fun x => decide ((prodV w i j x.1 x.2).2 = 0)) = true := by
          intro h
          simp only [List.all_cons, List.all_nil, Bool.and_true, Bool.and_eq_true, decide_eq_true_eq] at h
          exact hz h
        rw [if_neg hz'] at h2
        have hne : (prodV w i j dA B).2 ≠ 0 ∨ (prodV w i j A dB).2 ≠ 0 ∨ (prodV w i j dA dB).2 ≠ 0 := by
          apply Classical.byContradiction
          intro hn
          simp only [ne_eq, not_or, Decidable.not_not] at hn
          exact hz hn
        have hd : deltaV w i j A dA B dB = ([], 100) := by
          unfold deltaV
          rw [if_pos hm, if_neg hw, if_pos hne]
        rw [hd]
        simp only [m_delta_Product, h1, ok_some', out_some, res_test, res_stop, uB_0, Bool.not_true, Bool.false_eq_true, if_false, beq_self_eq_true, if_true, bs_toList, hw', h2, uI_0, List.map_nil]
  · have hm' : [A, dA, B, dB].all mayB = false := by
      apply Bool.eq_false_iff.2
      intro h
      simp only [List.all_cons, List.all_nil, Bool.and_true, Bool.and_eq_true] at h
      exact hm h
    rw [hm'] at h1
    have hd : deltaV w i j A dA B dB = ([], 1) := by unfold deltaV; rw [if_neg hm]
    rw [hd]
    simp only [m_delta_Product, h1, ok_some', out_some, res_test, res_stop, uB_0, Bool.not_false, Bool.false_eq_true, if_false, beq_self_eq_true, if_true, List.map_nil]

theorem deltaV_okB {w : List UInt8} {i j : Int} {A dA B dB : List Cnt} (hA : okB A) (hdA : okB dA) (hB : okB B) (hdB : okB dB) (a0 : A.length ≤ 300000) (a1 : dA.length ≤ 300000) : okB (deltaV w i j A dA B dB).1 ∧ (deltaV w i j A dA B dB).1.length ≤ 1000000 := by
  obtain ⟨s1, s2, s3⟩ := dsum_ok (w := w) (i := i) (j := j) hA hdA hB hdB (by omega) (by omega)
  have l1 := prodV_len (w := w) (i := i) (j := j) (A := dA) (B := B)
  have l2 := prodV_len (w := w) (i := i) (j := j) (A := A) (B := dB)
  have l3 := prodV_len (w := w) (i := i) (j := j) (A := dA) (B := dB)
  unfold deltaV
  split
  · split
    · exact ⟨hdA, by simp only; omega⟩
    · split
      · exact ⟨⟨by simp, fun c hc => by cases hc⟩, by simp⟩
      · simp only
        split
        · refine ⟨sumB_okB s1 s3, ?_⟩
          have := sumB_len ((prodV w i j dA B).1 ++ (prodV w i j A dB).1 ++ (prodV w i j dA dB).1)
          simp only [List.length_append] at this ⊢
          omega
        · exact ⟨⟨by simp, fun c hc => by cases hc⟩, by simp⟩
  · exact ⟨⟨by simp, fun c hc => by cases hc⟩, by simp⟩

theorem Joined_res (n0 n1 w : List UInt8) (i j : Int) (E : List Nd) (hE : ∀ d ∈ E, d.ok) (l6 : List (List PV)) (b7 : Bool) (l8 : List (List PV)) (A dA B dB : List Cnt) (hA : okB A) (hdA : okB dA) (hB : okB B) (hdB : okB dB) (a0 : A.length ≤ 300000) (a1 : dA.length ≤ 300000) (a2 : B.length ≤ 1000000) (a3 : dB.length ≤ 1000000) :
    (m_delta_Joined [.s (bs n0), .s (bs n1), .s (bs w), .i i, .i j, .l (E.map Nd.e), .l l6, .b b7, .l l8, .l (A.map Cnt.e), .l (dA.map Cnt.e), .l (B.map Cnt.e), .l (dB.map Cnt.e)]).res =
      some (0, [.i (thenW (trueV E) (deltaV w i j A dA B dB)).2, .l ((thenW (trueV E) (deltaV w i j A dA B dB)).1.map Cnt.e)]) := by
  have h1 := DProduct_res n0 n1 w i j (E.map Nd.e) l6 b7 l8 A dA B dB hA hdA hB hdB (by omega) (by omega) a2 a3
  obtain ⟨d1, d2⟩ := deltaV_okB (w := w) (i := i) (j := j) hA hdA hB hdB a0 a1
  have h2 := Where_res n0 n1 w i j E hE l6 b7 l8 _ d1 d2
  unfold thenW
  by_cases hz : (deltaV w i j A dA B dB).2 = 0
  · have hb : ((0 : Int) != 0) = false := rfl
    rw [if_neg (by simpa using hz)]
    simp only [m_delta_Joined, h1, ok_some', out_some, res_test, res_stop, uI_0, uI_s, uL_0, uL_s, hz, hb, Bool.false_eq_true, if_false, beq_self_eq_true, if_true, h2]
  · have hb : ((deltaV w i j A dA B dB).2 != 0) = true := by simpa using hz
    rw [if_pos hz]
    simp only [m_delta_Joined, h1, ok_some', out_some, res_test, res_stop, uI_0, uI_s, uL_0, uL_s, hb, beq_self_eq_true, if_true, List.map_nil]

theorem thenW_okB {f : List Val → Bool × Int} {p : List Cnt × Int} (h : okB p.1) : okB (thenW f p).1 ∧ (thenW f p).1.length ≤ p.1.length := by
  unfold thenW
  split
  · exact ⟨⟨by simp, fun c hc => by cases hc⟩, by simp⟩
  · exact whereV_okB h

end Go.Proofs.YtikmahlogjcieaaGreat

set_option linter.unusedVariables false
set_option linter.unusedSimpArgs false
namespace Go.Proofs.YtikmahlogjcieaaGreat
open Go Go.Pu

section
variable (n0 n1 w : List UInt8) (i j : Int) (E : List Nd) (hE : ∀ d ∈ E, d.ok) (l6 : List (List PV)) (b7 : Bool) (l8 : List (List PV))

/-! what stays -/

end
end Go.Proofs.YtikmahlogjcieaaGreat

set_option linter.unusedVariables false
set_option linter.unusedSimpArgs false
namespace Go.Proofs.YtikmahlogjcieaaGreat
open Go Go.Pu

theorem may_abs9 {b : List Cnt} (h : mayB b = true) (hl : b.length ≤ 400000) : absN b ≤ 400000000000000 := by
  have h1 := absN_le (b := b) (m := 1000000000) fun c hc => mayB_n h hc
  have h2 : b.length * 1000000000 ≤ 400000 * 1000000000 := Nat.mul_le_mul_right _ hl
  omega

theorem BothM_res {X Y : List Cnt} (hX : okB X) (hY : okB Y) (mX : mayB X = true) (mY : mayB Y = true) (lX : X.length ≤ 400000) (lY : Y.length ≤ 400000) :
    (m_R05_Both [.l (X.map Cnt.e), .l (Y.map Cnt.e)]).res = some (0, [.l ((sumB (X ++ Y)).map Cnt.e)]) ∧ okB (sumB (X ++ Y)) ∧ (sumB (X ++ Y)).length ≤ X.length + Y.length := by
  have a1 := may_abs9 mX lX
  have a2 := may_abs9 mY lY
  refine ⟨Both_res X Y hX hY (mayC mX) (by omega) (by omega), sumB_okB (app_ok hX hY (by omega)) (by rw [absN_app]; omega), ?_⟩
  have := sumB_len (X ++ Y)
  rw [List.length_append] at this
  exact this

theorem deltaV_len {w : List UInt8} {i j : Int} {A dA B dB : List Cnt} : (deltaV w i j A dA B dB).1.length ≤ A.length + 2 * dA.length + 30000 := by
  have l1 := prodV_len (w := w) (i := i) (j := j) (A := dA) (B := B)
  have l2 := prodV_len (w := w) (i := i) (j := j) (A := A) (B := dB)
  have l3 := prodV_len (w := w) (i := i) (j := j) (A := dA) (B := dB)
  unfold deltaV
  split
  · split
    · simp only; omega
    · split
      · simp
      · simp only
        split
        · have := sumB_len ((prodV w i j dA B).1 ++ (prodV w i j A dB).1 ++ (prodV w i j dA dB).1)
          simp only [List.length_append] at this ⊢
          omega
        · simp
  · simp

theorem thenD {w : List UInt8} {i j : Int} {A dA B dB : List Cnt} {f : List Val → Bool × Int} (hA : okB A) (hdA : okB dA) (hB : okB B) (hdB : okB dB) (a0 : A.length ≤ 300) (a1 : dA.length ≤ 300) :
    okB (thenW f (deltaV w i j A dA B dB)).1 ∧ mayB (thenW f (deltaV w i j A dA B dB)).1 = true ∧ (thenW f (deltaV w i j A dA B dB)).1.length ≤ 40000 := by
  obtain ⟨d1, _⟩ := deltaV_okB (w := w) (i := i) (j := j) hA hdA hB hdB (by omega) (by omega)
  have d3 := deltaV_len (w := w) (i := i) (j := j) (A := A) (dA := dA) (B := B) (dB := dB)
  obtain ⟨t1, t2⟩ := thenW_okB (f := f) d1
  exact ⟨t1, thenW_may (deltaV_may ..), by omega⟩

def smallQ (A dA B dB : List Cnt) (n m : Nat) : Bool := lowS A && (lowS dA && (lowS B && (lowS dB && (decide (n ≤ 120) && decide (m ≤ 60)))))
def mayQ (A dA B dB : List Cnt) : Bool := mayB A && (mayB dA && (mayB B && mayB dB))

theorem small_res (s0 s1 s2 : ByteArray) (i j : Int) (E : List Nd) (P : List Int) (b7 : Bool) (l8 : List (List PV)) (A dA B dB : List Cnt) (hA : okB A) (hdA : okB dA) (hB : okB B) (hdB : okB dB) :
    (m_L13_small [.s s0, .s s1, .s s2, .i i, .i j, .l (E.map Nd.e), .l (P.map kE), .b b7, .l l8, .l (A.map Cnt.e), .l (dA.map Cnt.e), .l (B.map Cnt.e), .l (dB.map Cnt.e)]).res = some (0, [.b (smallQ A dA B dB E.length P.length)]) := by
  have h1 := Low_res A hA
  have h2 := Low_res dA hdA
  have h3 := Low_res B hB
  have h4 := Low_res dB hdB
  unfold smallQ
  cases g1 : lowS A with
  | false => simp only [m_L13_small, h1, g1, ok_some', out_some, res_test, res_stop, uB_0, Bool.false_eq_true, if_false, if_true, beq_self_eq_true, Bool.false_and]
  | true =>
  cases g2 : lowS dA with
  | false => simp only [m_L13_small, h1, g1, h2, g2, ok_some', out_some, res_test, res_stop, uB_0, Bool.false_eq_true, if_false, if_true, beq_self_eq_true, Bool.false_and, Bool.and_false]
  | true =>
  cases g3 : lowS B with
  | false => simp only [m_L13_small, h1, g1, h2, g2, h3, g3, ok_some', out_some, res_test, res_stop, uB_0, Bool.false_eq_true, if_false, if_true, beq_self_eq_true, Bool.false_and, Bool.and_false]
  | true =>
  cases g4 : lowS dB with
  | false => simp only [m_L13_small, h1, g1, h2, g2, h3, g3, h4, g4, ok_some', out_some, res_test, res_stop, uB_0, Bool.false_eq_true, if_false, if_true, beq_self_eq_true, Bool.false_and, Bool.and_false]
  | true =>
    have e2 : decide ((P.length : Int) ≤ 60) = decide (P.length ≤ 60) := by rw [decide_eq_decide]; omega
    by_cases g5 : E.length ≤ 120
    · have g5' : (E.length : Int) ≤ 120 := by omega
      simp only [m_L13_small, h1, g1, h2, g2, h3, g3, h4, g4, ok_some', out_some, res_test, res_stop, uB_0, if_true, beq_self_eq_true, Bool.true_and, ln_map, g5, g5', decide_true, e2]
    · have g5' : ¬ (E.length : Int) ≤ 120 := by omega
      simp only [m_L13_small, h1, g1, h2, g2, h3, g3, h4, g4, ok_some', out_some, res_test, res_stop, uB_0, if_true, beq_self_eq_true, Bool.true_and, ln_map, g5, g5', decide_false, Bool.false_eq_true, if_false, Bool.false_and]

theorem may_res (A dA B dB : List Cnt) (hA : okB A) (hdA : okB dA) (hB : okB B) (hdB : okB dB) :
    (m_L13_may [.l (A.map Cnt.e), .l (dA.map Cnt.e), .l (B.map Cnt.e), .l (dB.map Cnt.e)]).res = some (0, [.b (mayQ A dA B dB)]) := by
  have h1 := R05_May_res A hA
  have h2 := R05_May_res dA hdA
  have h3 := R05_May_res B hB
  have h4 := R05_May_res dB hdB
  unfold mayQ
  cases g1 : mayB A with
  | false => simp only [m_L13_may, h1, g1, ok_some', out_some, res_test, res_stop, uB_0, Bool.false_eq_true, if_false, if_true, beq_self_eq_true, Bool.false_and]
  | true =>
  cases g2 : mayB dA with
  | false => simp only [m_L13_may, h1, g1, h2, g2, ok_some', out_some, res_test, res_stop, uB_0, Bool.false_eq_true, if_false, if_true, beq_self_eq_true, Bool.false_and, Bool.and_false]
  | true =>
  cases g3 : mayB B with
  | false => simp only [m_L13_may, h1, g1, h2, g2, h3, g3, ok_some', out_some, res_test, res_stop, uB_0, Bool.false_eq_true, if_false, if_true, beq_self_eq_true, Bool.false_and, Bool.and_false]
  | true => simp only [m_L13_may, h1, g1, h2, g2, h3, g3, h4, ok_some', out_some, res_test, res_stop, uB_0, Bool.false_eq_true, if_false, if_true, beq_self_eq_true, Bool.true_and]

theorem smallQ_of {A dA B dB : List Cnt} {n m : Nat} (h : smallQ A dA B dB n m = true) : lowS A = true ∧ lowS dA = true ∧ lowS B = true ∧ lowS dB = true ∧ n ≤ 120 ∧ m ≤ 60 := by
  unfold smallQ at h
  simpa [and_assoc] using h
theorem mayQ_of {A dA B dB : List Cnt} (h : mayQ A dA B dB = true) : mayB A = true ∧ mayB dA = true ∧ mayB B = true ∧ mayB dB = true := by
  unfold mayQ at h
  simpa [and_assoc] using h

theorem low_both {A B : List Cnt} (oA : lowS A = true) (oB : lowS B = true) (mA : mayB A = true) (mB : mayB B = true) : mayB (sumB (A ++ B)) = true := both_may mA mB (by
  have h1 := (lowS_of oA).2.1
  have h2 := (lowS_of oB).2.1
  omega)

/-! what the laws say, as plain data -/

section
variable {w : List UInt8} {i j : Int} {f : List Val → Bool × Int} {A dA B dB C : List Cnt}

end

section
variable (n0 n1 w : List UInt8) (i j : Int) (E : List Nd) (hE : ∀ d ∈ E, d.ok) (P : List Int) (b7 : Bool) (l8 : List (List PV)) (A dA B dB : List Cnt) (hA : okB A) (hdA : okB dA) (hB : okB B) (hdB : okB dB)
include hE hA hdA hB hdB

end
end Go.Proofs.YtikmahlogjcieaaGreat

set_option linter.unusedVariables false
set_option linter.unusedSimpArgs false
namespace Go.Proofs.YtikmahlogjcieaaGreat
open Go Go.Pu

theorem RTrue_res (e : List Nd) (he : ∀ d ∈ e, d.ok) (row : List Val) (hrow : okR row) : (m_R03_True [.l (e.map Nd.e), .l (re row)]).res = some (0, [.b (trueV e row).1, .i (trueV e row).2]) := by
  unfold trueV
  have h := REval_res e he row hrow
  by_cases e0 : e.length = 0
  · have : (((e.length : Nat) : Int) == 0) = true := by rw [beq_iff_eq]; omega
    rw [if_pos e0]
    simp only [m_R03_True, ln_map, res_test, res_stop, this, if_true]
  · have : (((e.length : Nat) : Int) == 0) = false := by rw [beq_eq_false_iff_ne]; omega
    rw [if_neg e0]
    simp only [m_R03_True, ln_map, res_test, res_stop, this, Bool.false_eq_true, if_false, h, ok_some', out_some, beq_self_eq_true, if_true, uI_0, uI_s, uS_0, uS_s, bs_toList]
    generalize (evalV e row).1 = v
    generalize (evalV e row).2 = f
    by_cases f0 : f = 0
    · subst f0
      have := eqV_c v 1 1 []
      simp only [beq_self_eq_true, if_true, this, true_and]
      rfl
    · have hf : (f == 0) = false := by simpa using f0
      simp only [hf, Bool.false_eq_true, if_false, f0, false_and, decide_false]

theorem eqV_at (x y : Val) : (x.k == y.k && (x.n == y.n && (x.s == y.s && true))) = decide (x = y) := by
  obtain ⟨a, b, c⟩ := x
  obtain ⟨d, e, f⟩ := y
  simp only [Val.mk.injEq, Bool.and_true]
  by_cases h1 : a = d
  · by_cases h2 : b = e
    · by_cases h3 : c = f
      · simp [h1, h2, h3]
      · simp [h1, h2, h3]
    · simp [h1, h2]
  · simp [h1]

section
variable (n0 n1 w : List UInt8) (i j : Int) (l5 l6 : List (List PV)) (b7 : Bool) (l8 : List (List PV))

theorem meets_res (s0 s1 s2 : ByteArray) (a b : List Val) : (m_R10_meets [.s s0, .s s1, .s s2, .i i, .i j, .l l5, .l l6, .b b7, .l l8, .l (re a), .l (re b)]).res = some (0, [.b (meetR i j a b)]) := by
  have h1 := RAt_res a i
  have h2 := RAt_res b j
  have he := eqV_at (atV a i) (atV b j)
  unfold meetR
  by_cases c1 : atV a i = atV b j
  · by_cases c2 : (atV a i).k = 0
    · have hb : ((atV a i).k != 0) = false := by simpa using c2
      rw [decide_eq_true c1] at he
      simp only [m_R10_meets, h1, h2, ok_some', out_some, res_test, res_stop, uI_0, uI_s, uS_s, uS_0, bs_toList, he, beq_self_eq_true, if_true, hb]
      simp [c2]
    · have hb : ((atV a i).k != 0) = true := by simpa using c2
      rw [decide_eq_true c1] at he
      simp only [m_R10_meets, h1, h2, ok_some', out_some, res_test, res_stop, uI_0, uI_s, uS_s, uS_0, bs_toList, he, beq_self_eq_true, if_true, hb]
      simp [c1]
      rw [← c1]; exact c2
  · rw [decide_eq_false c1] at he
    simp only [m_R10_meets, h1, h2, ok_some', out_some, res_test, res_stop, uI_0, uI_s, uS_s, uS_0, bs_toList, he, beq_self_eq_true, if_true, Bool.false_eq_true, if_false, c1, false_and, decide_false]

theorem okLm {L : List Cnt} (hr : ∀ c ∈ L, okR c.row) (hm : manyOk L = true) : okB L ∧ absN L ≤ 10000000000000 := by
  unfold manyOk at hm
  simp only [Bool.and_eq_true, decide_eq_true_eq] at hm
  have hn : ∀ c ∈ L, -1000000000 ≤ c.n ∧ c.n ≤ 1000000000 := fun c hc => fitsN_iff.1 (pairOk_iff.1 (List.all_eq_true.1 hm.2 c hc)).2
  refine ⟨⟨by omega, fun c hc => ⟨hr c hc, by have := hn c hc; exact ⟨by omega, by omega⟩⟩⟩, ?_⟩
  have h1 := absN_le (b := L) (m := 1000000000) fun c hc => by have := hn c hc; omega
  have h2 : L.length * 1000000000 ≤ 10000 * 1000000000 := Nat.mul_le_mul_right _ hm.1
  omega

theorem pairs1_take (a : Cnt) (B : List Cnt) {t : Nat} (h : t < B.length) : pairs1 i j a (B.take (t + 1)) = pairs1 i j a (B.take t) ++ (if meetR i j a.row B[t].row = true then [pairC a B[t]] else []) := by
  unfold pairs1
  rw [take_one B h, List.filter_append, List.map_append]
  congr 1
  rw [List.filter_cons]
  split
  · rfl
  · rfl

theorem okR_app {a b : List Val} (ha : okR a) (hb : okR b) (h : a.length + b.length ≤ 4398046511104) : okR (a ++ b) :=
  ⟨by rw [List.length_append]; exact h, fun v hv => (List.mem_append.1 hv).elim (ha.2 v) (hb.2 v)⟩

theorem Rprod_inner (s0 s1 s2 : ByteArray) (A B : List Cnt) (hA : okB A) (hB : okB B) (mA : mayB A = true) (mB : mayB B = true) (k0 : B.length ≤ 1000000) (p : Nat) (hp : p < A.length) (L : List Cnt) (hL : ∀ c ∈ L, okR c.row) (hm : manyOk L = true) :
    lres rd_R10_Product_10_11 [.l (A.map Cnt.e), .l (B.map Cnt.e), .i (L.length : Nat), .i (p : Nat), .i 0, .s s0, .s s1, .s s2, .i i, .i j, .l l5, .l l6, .b b7, .l l8, .l ((sumB L).map Cnt.e)] =
      if manyOk (L ++ pairs1 i j A[p] B) = true then some (1, [.l (A.map Cnt.e), .l (B.map Cnt.e), .i ((L ++ pairs1 i j A[p] B).length : Nat), .i (p : Nat), .s s0, .s s1, .s s2, .i i, .i j, .l l5, .l l6, .b b7, .l l8, .l ((sumB (L ++ pairs1 i j A[p] B)).map Cnt.e)])
      else some (0, [.i 100]) := by
  have pre : ∀ t, t ≤ B.length → (∀ q, q < t → manyOk (L ++ pairs1 i j A[p] (B.take (q + 1))) = true) → manyOk (L ++ pairs1 i j A[p] (B.take t)) = true := by
    intro t ht hq
    cases t with
    | zero =>
      have : pairs1 i j A[p] (B.take 0) = [] := rfl
      rw [this, List.append_nil]; exact hm
    | succ t => exact hq t (by omega)
  have mrA := mayB_row mA (List.getElem_mem hp)
  have naA := mayB_n mA (List.getElem_mem hp)
  have oA := (hA.2 _ (List.getElem_mem hp)).1
  have la : A[p].row.length ≤ 40 := by unfold mayR at mrA; simp only [Bool.and_eq_true, decide_eq_true_eq] at mrA; exact mrA.1
  have rowA0 : cL A[p].e 0 = re A[p].row := rfl
  have rowA1 : cI A[p].e 1 = A[p].n := rfl
  have h := loop_ix B.length (rd := rd_R10_Product_10_11)
    (fun t => [.l (A.map Cnt.e), .l (B.map Cnt.e), .i ((L ++ pairs1 i j A[p] (B.take t)).length : Nat), .i (p : Nat), .i (t : Nat), .s s0, .s s1, .s s2, .i i, .i j, .l l5, .l l6, .b b7, .l l8, .l ((sumB (L ++ pairs1 i j A[p] (B.take t))).map Cnt.e)])
    (fun t => manyOk (L ++ pairs1 i j A[p] (B.take (t + 1)))) 0 1 (fun _ => [.i 100])
    [.l (A.map Cnt.e), .l (B.map Cnt.e), .i ((L ++ pairs1 i j A[p] B).length : Nat), .i (p : Nat), .s s0, .s s1, .s s2, .i i, .i j, .l l5, .l l6, .b b7, .l l8, .l ((sumB (L ++ pairs1 i j A[p] B)).map Cnt.e)]
    (by simp [rd_R10_Product_10_11]) (by
    intro t ht hall
    have hM := pre t (by omega) hall
    have mrB := mayB_row mB (List.getElem_mem ht)
    have nbB := mayB_n mB (List.getElem_mem ht)
    have oB := (hB.2 _ (List.getElem_mem ht)).1
    have lb : B[t].row.length ≤ 40 := by unfold mayR at mrB; simp only [Bool.and_eq_true, decide_eq_true_eq] at mrB; exact mrB.1
    have rowB0 : cL B[t].e 0 = re B[t].row := rfl
    have rowB1 : cI B[t].e 1 = B[t].n := rfl
    have hme := meets_res i j l5 l6 b7 l8 s0 s1 s2 A[p].row B[t].row
    have hpt := pairs1_take i j A[p] B ht
    by_cases hmt : meetR i j A[p].row B[t].row = true
    · rw [if_pos hmt, ← List.singleton_append] at hpt
      have hall2 : L ++ pairs1 i j A[p] (B.take (t + 1)) = (L ++ pairs1 i j A[p] (B.take t)) ++ [pairC A[p] B[t]] := by rw [hpt, List.append_assoc]; rfl
      generalize hK : L ++ pairs1 i j A[p] (B.take t) = K at *
      have hKr : ∀ c ∈ K, okR c.row := by
        intro c hc
        rw [← hK] at hc
        rcases List.mem_append.1 hc with hc | hc
        · exact hL c hc
        · unfold pairs1 at hc
          obtain ⟨b, hb, rfl⟩ := List.mem_map.1 hc
          have hb := List.mem_of_mem_take (List.mem_filter.1 hb).1
          have := mayB_row mB hb
          unfold mayR at this
          simp only [Bool.and_eq_true, decide_eq_true_eq] at this
          exact okR_app oA (hB.2 b hb).1 (by omega)
      obtain ⟨k1, k2⟩ := okLm hKr hM
      have kl : K.length ≤ 10000 := by unfold manyOk at hM; simp only [Bool.and_eq_true, decide_eq_true_eq] at hM; exact hM.1
      have ka : K.all pairOk = true := by unfold manyOk at hM; simp only [Bool.and_eq_true, decide_eq_true_eq] at hM; exact hM.2
      have hn18 : (A[p].n * B[t].n).natAbs ≤ 1000000000 * 1000000000 := by rw [Int.natAbs_mul]; exact Nat.mul_le_mul naA nbB
      have hw : w64 (A[p].n * B[t].n) = A[p].n * B[t].n := w64_eq (by omega) (by omega)
      have hw2 : w64 ((K.length : Int) + 1) = ((K.length + 1 : Nat) : Int) := w64_succ (by omega)
      have hfit := R05_Fits_res (A[p].n * B[t].n)
      have hadd := Add_res5 (sumB K) (sumB_okB k1 (by omega)) (by have := sumB_len K; omega) (sumB_canon K).1 (A[p].row ++ B[t].row) (A[p].n * B[t].n) (by omega) (fun c hc => by
        have h1 := sumB_n hc
        have h2 := cnt_abs K c.row
        omega)
      have hsn : addC (sumB K) (A[p].row ++ B[t].row) (A[p].n * B[t].n) = sumB (K ++ [pairC A[p] B[t]]) := (sumB_snoc K (pairC A[p] B[t])).symm
      rw [hsn] at hadd
      have hmany : manyOk (K ++ [pairC A[p] B[t]]) = (decide (K.length + 1 ≤ 10000) && (decide ((A[p].row ++ B[t].row).length ≤ 40) && fitsN (A[p].n * B[t].n))) := by
        unfold manyOk
        rw [List.all_append, ka, Bool.true_and, List.length_append]
        simp only [List.all_cons, List.all_nil, Bool.and_true, List.length_singleton]
        rfl
      have r1 : (0 + (re A[p].row).length) * 32 ≤ 140737488355328 := by rw [re_len]; omega
      have r2 : ((re A[p].row).length + (re B[t].row).length) * 32 ≤ 140737488355328 := by rw [re_len, re_len]; omega
      have hcat : re A[p].row ++ re B[t].row = re (A[p].row ++ B[t].row) := (re_app _ _).symm
      have hln : ln (re (A[p].row ++ B[t].row)) = ((A[p].row ++ B[t].row).length : Int) := ln_re _
      have hlt1 : (p : Int) < (A.length : Int) := by omega
      simp only [rd_R10_Product_10_11, rt_test, rt_next, rt_stop, el_map _ _ hp, el_map _ _ ht, ln_map, inR_cast, Int.ofNat_lt, hp, ht, decide_true, if_true, rowA0, rowA1, rowB0, rowB1, hme, hmt, ok_some', out_some, uB_0, beq_self_eq_true, Bool.not_true, Bool.false_eq_true, if_false, r1, r2, hw2, hcat, hln, hw, hfit, hadd, uL_0, hall2, hmany]
      by_cases c1 : K.length + 1 ≤ 10000
      · have c1' : ¬ ((K.length + 1 : Nat) : Int) > 10000 := by omega
        by_cases c2 : (A[p].row ++ B[t].row).length ≤ 40
        · have c2' : ¬ (((A[p].row ++ B[t].row).length : Nat) : Int) > 40 := by omega
          cases c3 : fitsN (A[p].n * B[t].n) with
          | true =>
            have hlen2 : (K ++ [pairC A[p] B[t]]).length = K.length + 1 := by simp
            simp only [c1, c1', c2, c2', decide_true, decide_false, Bool.false_eq_true, if_false, if_true, Bool.not_true, Bool.and_self, hlen2, w64_succ (i := t) (by omega)]
          | false => simp only [c1, c1', c2, c2', decide_true, decide_false, Bool.false_eq_true, if_false, if_true, Bool.not_false, Bool.and_false]
        · have c2' : (((A[p].row ++ B[t].row).length : Nat) : Int) > 40 := by omega
          simp only [c1, c1', c2, c2', decide_true, decide_false, Bool.false_eq_true, if_false, if_true, Bool.false_and, Bool.and_false]
      · have c1' : ((K.length + 1 : Nat) : Int) > 10000 := by omega
        simp only [c1, c1', decide_true, decide_false, Bool.false_eq_true, if_false, if_true, Bool.false_and]
    · have hmt' : meetR i j A[p].row B[t].row = false := by simpa using hmt
      rw [if_neg hmt, List.append_nil] at hpt
      have hlt1 : (p : Int) < (A.length : Int) := by omega
      simp only [rd_R10_Product_10_11, rt_test, rt_next, rt_stop, el_map _ _ hp, el_map _ _ ht, ln_map, inR_cast, Int.ofNat_lt, hp, ht, decide_true, if_true, rowA0, rowB0, hme, hmt', ok_some', out_some, uB_0, beq_self_eq_true, Bool.not_false, hpt, hM, w64_succ (i := t) (by omega)])
  simp only [List.take_zero, Int.natCast_zero] at h
  rw [show pairs1 i j A[p] [] = [] from rfl, List.append_nil] at h
  rcases h with ⟨h1, h2⟩ | ⟨t, ht, h1, _, h2⟩
  · have := pre B.length (Nat.le_refl _) h1
    rw [List.take_length] at this
    rw [if_pos this, h2]
  · have hn : ¬ manyOk (L ++ pairs1 i j A[p] B) = true := by
      intro hmm
      have e : pairs1 i j A[p] B = pairs1 i j A[p] (B.take (t + 1)) ++ pairs1 i j A[p] (B.drop (t + 1)) := by
        unfold pairs1
        rw [← List.map_append, ← List.filter_append, List.take_append_drop]
      rw [e, ← List.append_assoc] at hmm
      rw [manyOk_app hmm] at h1
      cases h1
    rw [if_neg hn, h2]

theorem Rprod_outer (s0 s1 s2 : ByteArray) (A B : List Cnt) (hA : okB A) (hB : okB B) (mA : mayB A = true) (mB : mayB B = true) (h0 : A.length ≤ 1000000) (k0 : B.length ≤ 1000000) :
    lres rd_R10_Product_10_8 [.l (A.map Cnt.e), .l (B.map Cnt.e), .i 0, .i 0, .s s0, .s s1, .s s2, .i i, .i j, .l l5, .l l6, .b b7, .l l8, .l []] =
      if manyOk (pairsL i j A B) = true then some (1, [.l ((sumB (pairsL i j A B)).map Cnt.e)]) else some (0, [.i 100]) := by
  have pre : ∀ p, p ≤ A.length → (∀ q, q < p → manyOk (pairsL i j (A.take (q + 1)) B) = true) → manyOk (pairsL i j (A.take p) B) = true := by
    intro p hp hq
    cases p with
    | zero => rfl
    | succ p => exact hq p (by omega)
  have h := loop_ix A.length (rd := rd_R10_Product_10_8) (fun p => [.l (A.map Cnt.e), .l (B.map Cnt.e), .i ((pairsL i j (A.take p) B).length : Nat), .i (p : Nat), .s s0, .s s1, .s s2, .i i, .i j, .l l5, .l l6, .b b7, .l l8, .l ((sumB (pairsL i j (A.take p) B)).map Cnt.e)])
    (fun p => manyOk (pairsL i j (A.take (p + 1)) B)) 0 1 (fun _ => [.i 100]) [.l ((sumB (pairsL i j A B)).map Cnt.e)]
    (by simp [rd_R10_Product_10_8]) (by
    intro p hp hall
    have hM := pre p (by omega) hall
    have hr : ∀ c ∈ pairsL i j (A.take p) B, okR c.row := by
      intro c hc
      obtain ⟨a, ha, b, hb, _, rfl⟩ := pairs_mem hc
      have ha := List.mem_of_mem_take ha
      have h1 := mayB_row mA ha
      have h2 := mayB_row mB hb
      unfold mayR at h1 h2
      simp only [Bool.and_eq_true, decide_eq_true_eq] at h1 h2
      exact okR_app (hA.2 a ha).1 (hB.2 b hb).1 (by omega)
    have hin := Rprod_inner i j l5 l6 b7 l8 s0 s1 s2 A B hA hB mA mB k0 p hp (pairsL i j (A.take p) B) hr hM
    have ht := pairs_take i j A B hp
    rw [← ht] at hin
    have hlt1 : (p : Int) < (A.length : Int) := by omega
    cases hmo : manyOk (pairsL i j (A.take (p + 1)) B) with
    | true =>
      rw [hmo, if_pos rfl] at hin
      simp only [rd_R10_Product_10_8, rt_test, rt_next, rt_stop, ln_map, hlt1, decide_true, if_true, hin, ok_some', out_some, ok01, Bool.false_eq_true, if_false, beq_self_eq_true, uI_0, uI_s, uS_0, uS_s, uL_0, uL_s, uB_0, uB_s, w64_succ (i := p) (by omega)]
    | false =>
      rw [hmo, if_neg (by simp)] at hin
      simp only [rd_R10_Product_10_8, rt_test, rt_next, rt_stop, ln_map, hlt1, decide_true, if_true, hin, ok_some', out_some, beq_self_eq_true, uI_0, Bool.false_eq_true, if_false])
  simp only [List.take_zero, Int.natCast_zero] at h
  rw [show pairsL i j [] B = [] from rfl] at h
  rw [show (([] : List Cnt).length : Int) = 0 from rfl, show (sumB []).map Cnt.e = [] from rfl] at h
  rcases h with ⟨h1, h2⟩ | ⟨p, hp, h1, _, h2⟩
  · have := pre A.length (Nat.le_refl _) h1
    rw [List.take_length] at this
    rw [if_pos this, h2]
  · have hm : ¬ manyOk (pairsL i j A B) = true := by
      intro hm
      have e : pairsL i j A B = pairsL i j (A.take (p + 1)) B ++ pairsL i j (A.drop (p + 1)) B := by
        unfold pairsL
        rw [← List.flatMap_append, List.take_append_drop]
      rw [e] at hm
      rw [manyOk_app hm] at h1
      cases h1
    rw [if_neg hm, h2]

theorem RProduct_res (A B : List Cnt) (hA : okB A) (hB : okB B) (h0 : A.length ≤ 1000000) (k0 : B.length ≤ 1000000) :
    (m_R10_Product [.s (bs n0), .s (bs n1), .s (bs w), .i i, .i j, .l l5, .l l6, .b b7, .l l8, .l (A.map Cnt.e), .l (B.map Cnt.e)]).res = some (0, [.l ((prodV w i j A B).1.map Cnt.e), .i (prodV w i j A B).2]) := by
  have h1 := R05_May_res A hA
  have h2 := R05_May_res B hB
  cases mA : mayB A with
  | false =>
    simp only [m_R10_Product, h1, mA, ok_some', out_some, res_test, res_stop, uB_0, Bool.not_false, beq_self_eq_true, if_true, prodV, Bool.false_eq_true, false_and, if_false, List.map_nil]
  | true =>
  cases mB : mayB B with
  | false =>
    simp only [m_R10_Product, h1, mA, h2, mB, ok_some', out_some, res_test, res_stop, uB_0, Bool.not_true, Bool.not_false, beq_self_eq_true, if_true, prodV, Bool.false_eq_true, and_false, if_false, List.map_nil]
  | true =>
  by_cases hw : w = []
  · simp only [m_R10_Product, h1, mA, h2, mB, ok_some', out_some, res_test, res_stop, uB_0, Bool.not_true, Bool.false_eq_true, if_false, beq_self_eq_true, if_true, bs_toList, hw, prodV, and_self]
  · have hw' : (w == []) = false := by simpa using hw
    have h3 := Rprod_outer i j l5 l6 b7 l8 (bs n0) (bs n1) (bs w) A B hA hB mA mB h0 k0
    by_cases hm : manyOk (pairsL i j A B) = true
    · rw [if_pos hm] at h3
      obtain ⟨p1, p2⟩ := pairs_okB i j hA hB mA mB hm
      have h4 := R05_May_res _ (sumB_okB p1 p2)
      cases hs : mayB (sumB (pairsL i j A B)) with
      | true => simp only [m_R10_Product, h1, mA, h2, mB, ok_some', out_some, res_test, res_stop, uB_0, Bool.not_true, Bool.false_eq_true, if_false, beq_self_eq_true, if_true, bs_toList, hw', h3, ok01, uL_0, h4, hs, prodV, and_self, hw, hm]
      | false => simp only [m_R10_Product, h1, mA, h2, mB, ok_some', out_some, res_test, res_stop, uB_0, Bool.not_true, Bool.not_false, Bool.false_eq_true, if_false, beq_self_eq_true, if_true, bs_toList, hw', h3, ok01, uL_0, h4, hs, prodV, and_self, and_false, hw, hm, List.map_nil]
    · rw [if_neg hm] at h3
      simp only [m_R10_Product, h1, mA, h2, mB, ok_some', out_some, res_test, res_stop, uB_0, Bool.not_true, Bool.false_eq_true, if_false, beq_self_eq_true, if_true, bs_toList, hw', h3, uI_0, prodV, and_self, hw, hm, false_and, List.map_nil]

/-! what stays -/

theorem Rwhere_loop (s0 s1 s2 : ByteArray) (E : List Nd) (hE : ∀ d ∈ E, d.ok) (B : List Cnt) (hB : okB B) (mB : mayB B = true) (h0 : B.length ≤ 1000000) : ∀ m p (O : List Cnt), B.length - p = m → p ≤ B.length → O.length ≤ p →
    lres rd_R10_Where_12_3 [.l (B.map Cnt.e), .i (p : Nat), .s s0, .s s1, .s s2, .i i, .i j, .l (E.map Nd.e), .l l6, .b b7, .l l8, .l (O.map Cnt.e)] =
      if (whereF (trueV E) (B.drop p)).2 = 0 then some (1, [.l ((O ++ (whereF (trueV E) (B.drop p)).1).map Cnt.e)]) else some (0, [.i (whereF (trueV E) (B.drop p)).2]) := by
  intro m
  induction m with
  | zero =>
    intro p O hp hle hO
    have : p = B.length := by omega
    subst this
    rw [List.drop_length]
    simp only [whereF, if_true, List.append_nil]
    exact lres_stop (by simp [rd_R10_Where_12_3])
  | succ m ih =>
    intro p O hp hle hO
    have h : p < B.length := by omega
    have hc := hB.2 B[p] (List.getElem_mem h)
    have h1 := RTrue_res E hE B[p].row hc.1
    have h2 := R05_May_res B hB
    rw [mB] at h2
    have row0 : cL B[p].e 0 = re B[p].row := rfl
    have row1 : cI B[p].e 1 = B[p].n := rfl
    rw [List.drop_eq_getElem_cons h]
    by_cases he : (trueV E B[p].row).2 = 0
    · have heb : ((0 : Int) != 0) = false := rfl
      by_cases ht : (trueV E B[p].row).1 = true
      · have r2 : ((O.map Cnt.e).length + 1) * 32 ≤ 140737488355328 := by rw [List.length_map]; omega
        have hO2 : O.map Cnt.e ++ [[PV.lst 56 (re B[p].row), pI B[p].n]] = (O ++ [B[p]]).map Cnt.e := by rw [List.map_append]; rfl
        have hnext : (rd_R10_Where_12_3 [.l (B.map Cnt.e), .i (p : Nat), .s s0, .s s1, .s s2, .i i, .i j, .l (E.map Nd.e), .l l6, .b b7, .l l8, .l (O.map Cnt.e)]).val =
            some (.next [.l (B.map Cnt.e), .i ((p + 1 : Nat) : Int), .s s0, .s s1, .s s2, .i i, .i j, .l (E.map Nd.e), .l l6, .b b7, .l l8, .l ((O ++ [B[p]]).map Cnt.e)]) := by
          simp only [rd_R10_Where_12_3, rt_test, rt_next, rt_stop, el_map _ _ h, ln_map, inR_cast, Int.ofNat_lt, h, decide_true, if_true, row0, row1, h1, h2, ok_some', out_some, uI_0, uI_s, uB_0, he, heb, ht, beq_self_eq_true, Bool.false_eq_true, if_false, r2, hO2, w64_succ (i := p) (by omega)]
        rw [lres_next hnext, ih (p + 1) _ (by omega) (by omega) (by simp; omega)]
        rw [whereF_cons he, if_pos ht]
        by_cases hr : (whereF (trueV E) (B.drop (p + 1))).2 = 0
        · simp [hr]
        · simp [hr]
      · have ht' : (trueV E B[p].row).1 = false := by simpa using ht
        have hnext : (rd_R10_Where_12_3 [.l (B.map Cnt.e), .i (p : Nat), .s s0, .s s1, .s s2, .i i, .i j, .l (E.map Nd.e), .l l6, .b b7, .l l8, .l (O.map Cnt.e)]).val =
            some (.next [.l (B.map Cnt.e), .i ((p + 1 : Nat) : Int), .s s0, .s s1, .s s2, .i i, .i j, .l (E.map Nd.e), .l l6, .b b7, .l l8, .l (O.map Cnt.e)]) := by
          simp only [rd_R10_Where_12_3, rt_test, rt_next, rt_stop, el_map _ _ h, ln_map, inR_cast, Int.ofNat_lt, h, decide_true, if_true, row0, row1, h1, h2, ok_some', out_some, uI_0, uI_s, uB_0, he, heb, ht', beq_self_eq_true, Bool.false_eq_true, if_false, w64_succ (i := p) (by omega)]
        rw [lres_next hnext, ih (p + 1) _ (by omega) (by omega) (by omega)]
        rw [whereF_cons he, if_neg ht]
        by_cases hr : (whereF (trueV E) (B.drop (p + 1))).2 = 0
        · simp [hr]
        · simp [hr]
    · have heb : ((trueV E B[p].row).2 != 0) = true := by simpa using he
      have hstop : (rd_R10_Where_12_3 [.l (B.map Cnt.e), .i (p : Nat), .s s0, .s s1, .s s2, .i i, .i j, .l (E.map Nd.e), .l l6, .b b7, .l l8, .l (O.map Cnt.e)]).val = some (.stop 0 [.i (trueV E B[p].row).2]) := by
        simp only [rd_R10_Where_12_3, rt_test, rt_next, rt_stop, el_map _ _ h, ln_map, inR_cast, Int.ofNat_lt, h, decide_true, if_true, row0, row1, h1, h2, ok_some', out_some, uI_0, uI_s, uB_0, heb, beq_self_eq_true]
      rw [lres_stop hstop, whereF_bad he, if_neg he]

theorem RWhere_res (E : List Nd) (hE : ∀ d ∈ E, d.ok) (B : List Cnt) (hB : okB B) (h0 : B.length ≤ 1000000) :
    (m_R10_Where [.s (bs n0), .s (bs n1), .s (bs w), .i i, .i j, .l (E.map Nd.e), .l l6, .b b7, .l l8, .l (B.map Cnt.e)]).res = some (0, [.i (whereV (trueV E) B).2, .l ((whereV (trueV E) B).1.map Cnt.e)]) := by
  cases mB : mayB B with
  | true =>
    have h2 := Rwhere_loop i j l6 b7 l8 (bs n0) (bs n1) (bs w) E hE B hB mB h0 B.length 0 [] (by omega) (by omega) (by simp)
    simp only [Int.natCast_zero, List.drop_zero, List.map_nil, List.nil_append] at h2
    by_cases he : (whereF (trueV E) B).2 = 0
    · rw [if_pos he] at h2
      simp only [m_R10_Where, h2, ok_some', out_some, res_test, res_stop, ok01, Bool.false_eq_true, if_false, beq_self_eq_true, if_true, uL_0, whereV, mB, he]
    · rw [if_neg he] at h2
      simp only [m_R10_Where, h2, ok_some', out_some, res_test, res_stop, beq_self_eq_true, if_true, uI_0, whereV, mB, (whereF_nil he).1, List.map_nil]
  | false =>
    have h1 := R05_May_res B hB
    rw [mB] at h1
    have h2 : lres rd_R10_Where_12_3 [.l (B.map Cnt.e), .i 0, .s (bs n0), .s (bs n1), .s (bs w), .i i, .i j, .l (E.map Nd.e), .l l6, .b b7, .l l8, .l []] = some (1, [.l []]) := by
      refine lres_stop ?_
      by_cases hz : B.length = 0
      · have hB0 : B = [] := List.eq_nil_of_length_eq_zero hz
        subst hB0
        simp [rd_R10_Where_12_3]
      · have hlt : (0 : Int) < (B.length : Int) := by omega
        simp only [rd_R10_Where_12_3, rt_test, rt_stop, ln_map, hlt, decide_true, if_true, h1, ok_some', out_some, uB_0, beq_self_eq_true, Bool.false_eq_true, if_false]
    simp only [m_R10_Where, h2, ok_some', out_some, res_test, res_stop, ok01, Bool.false_eq_true, if_false, beq_self_eq_true, if_true, uL_0, whereV, mB, List.map_nil]

/-! picks -/

end

/-! the law -/

section
variable (n0 n1 w : List UInt8) (i j : Int) (E : List Nd) (hE : ∀ d ∈ E, d.ok) (P : List Int) (b7 : Bool) (l8 : List (List PV))
include hE

end
end Go.Proofs.YtikmahlogjcieaaGreat

set_option linter.unusedVariables false
set_option linter.unusedSimpArgs false
namespace Go.Proofs.YtikmahlogjcieaaGreat
open Go Go.Pu

section
variable (n0 n1 w : List UInt8) (i j : Int) (l5 l6 : List (List PV)) (b7 : Bool) (l8 : List (List PV))

end

section
variable (n0 n1 w : List UInt8) (i j : Int) (E : List Nd) (hE : ∀ d ∈ E, d.ok) (P : List Int) (b7 : Bool) (l8 : List (List PV))
include hE

theorem joined_res (A B : List Cnt) (hA : okB A) (hB : okB B) (a0 : A.length ≤ 300000) (a1 : B.length ≤ 1000000) :
    (m_L13_joined [.s (bs n0), .s (bs n1), .s (bs w), .i i, .i j, .l (E.map Nd.e), .l (P.map kE), .b b7, .l l8, .l (A.map Cnt.e), .l (B.map Cnt.e)]).res =
      some (0, [.i (thenW (trueV E) (prodV w i j A B)).2, .l ((thenW (trueV E) (prodV w i j A B)).1.map Cnt.e)]) := by
  have h1 := RProduct_res n0 n1 w i j (E.map Nd.e) (P.map kE) b7 l8 A B hA hB (by omega) a1
  have o1 := prodV_okB (w := w) (i := i) (j := j) hA hB
  have q1 := prodV_len (w := w) (i := i) (j := j) (A := A) (B := B)
  have h2 := RWhere_res n0 n1 w i j (P.map kE) b7 l8 E hE _ o1 (by omega)
  unfold thenW
  by_cases hz : (prodV w i j A B).2 = 0
  · have hb : ((0 : Int) != 0) = false := rfl
    rw [if_neg (by simpa using hz)]
    simp only [m_L13_joined, h1, ok_some', out_some, res_test, res_stop, uI_0, uI_s, uL_0, uL_s, hz, hb, Bool.false_eq_true, if_false, beq_self_eq_true, if_true, h2]
  · have hb : ((prodV w i j A B).2 != 0) = true := by simpa using hz
    rw [if_pos hz]
    simp only [m_L13_joined, h1, ok_some', out_some, res_test, res_stop, uI_0, uI_s, uL_0, uL_s, hb, beq_self_eq_true, if_true, List.map_nil]

section
variable (A dA B dB : List Cnt) (hA : okB A) (hdA : okB dA) (hB : okB B) (hdB : okB dB)
include hA hdA hB hdB

theorem deltaAdds_res (z : Bool) : (m_L13_DeltaAdds [.s (bs n0), .s (bs n1), .s (bs w), .i i, .i j, .l (E.map Nd.e), .l (P.map kE), .b b7, .l l8, .l (A.map Cnt.e), .l (dA.map Cnt.e), .l (B.map Cnt.e), .l (dB.map Cnt.e), .b z]).res = some (0, [.b true]) := by
  have h1 := small_res (bs n0) (bs n1) (bs w) i j E P b7 l8 A dA B dB hA hdA hB hdB
  have h2 := may_res A dA B dB hA hdA hB hdB
  cases g1 : smallQ A dA B dB E.length P.length with
  | false => simp only [m_L13_DeltaAdds, h1, g1, ok_some', out_some, res_test, res_stop, uB_0, Bool.not_false, if_true, beq_self_eq_true]
  | true =>
  cases g2 : mayQ A dA B dB with
  | false => simp only [m_L13_DeltaAdds, h1, g1, h2, g2, ok_some', out_some, res_test, res_stop, uB_0, Bool.not_true, Bool.not_false, Bool.false_eq_true, if_false, if_true, beq_self_eq_true]
  | true =>
    obtain ⟨o1, o2, o3, o4, _, _⟩ := smallQ_of g1
    obtain ⟨m1, m2, m3, m4⟩ := mayQ_of g2
    have k1 := (lowS_of o1).1
    have k2 := (lowS_of o2).1
    have k3 := (lowS_of o3).1
    have k4 := (lowS_of o4).1
    obtain ⟨h5, q5, l5⟩ := BothM_res hA hdA m1 m2 (by omega) (by omega)
    obtain ⟨h6, q6, l6⟩ := BothM_res hB hdB m3 m4 (by omega) (by omega)
    have s1 := low_both o1 o2 m1 m2
    have s2 := low_both o3 o4 m3 m4
    have b0 : ((0 : Int) != 0) = false := rfl
    have fin : ∀ (B' dB' : List Cnt), okB B' → okB dB' → mayB B' = true → mayB dB' = true → mayB (sumB (B' ++ dB')) = true → okB (sumB (B' ++ dB')) → B'.length ≤ 60 → dB'.length ≤ 60 → (sumB (B' ++ dB')).length ≤ 120 →
        (m_delta_Joined [.s (bs n0), .s (bs n1), .s (bs w), .i i, .i j, .l (E.map Nd.e), .l (P.map kE), .b b7, .l l8, .l (A.map Cnt.e), .l (dA.map Cnt.e), .l (B'.map Cnt.e), .l (dB'.map Cnt.e)]).res = some (0, [.i (thenW (trueV E) (deltaV w i j A dA B' dB')).2, .l ((thenW (trueV E) (deltaV w i j A dA B' dB')).1.map Cnt.e)]) ∧
        (m_L13_joined [.s (bs n0), .s (bs n1), .s (bs w), .i i, .i j, .l (E.map Nd.e), .l (P.map kE), .b b7, .l l8, .l (A.map Cnt.e), .l (B'.map Cnt.e)]).res = some (0, [.i (thenW (trueV E) (prodV w i j A B')).2, .l ((thenW (trueV E) (prodV w i j A B')).1.map Cnt.e)]) ∧
        (m_L13_joined [.s (bs n0), .s (bs n1), .s (bs w), .i i, .i j, .l (E.map Nd.e), .l (P.map kE), .b b7, .l l8, .l ((sumB (A ++ dA)).map Cnt.e), .l ((sumB (B' ++ dB')).map Cnt.e)]).res = some (0, [.i (thenW (trueV E) (prodV w i j (sumB (A ++ dA)) (sumB (B' ++ dB')))).2, .l ((thenW (trueV E) (prodV w i j (sumB (A ++ dA)) (sumB (B' ++ dB')))).1.map Cnt.e)]) ∧
        (m_R05_Both [.l ((thenW (trueV E) (prodV w i j A B')).1.map Cnt.e), .l ((thenW (trueV E) (deltaV w i j A dA B' dB')).1.map Cnt.e)]).res = some (0, [.l ((sumB ((thenW (trueV E) (prodV w i j A B')).1 ++ (thenW (trueV E) (deltaV w i j A dA B' dB')).1)).map Cnt.e)]) ∧
        (m_R05_Same [.l ((sumB ((thenW (trueV E) (prodV w i j A B')).1 ++ (thenW (trueV E) (deltaV w i j A dA B' dB')).1)).map Cnt.e), .l ((thenW (trueV E) (prodV w i j (sumB (A ++ dA)) (sumB (B' ++ dB')))).1.map Cnt.e)]).res =
          some (0, [.b (decide (sumB ((thenW (trueV E) (prodV w i j A B')).1 ++ (thenW (trueV E) (deltaV w i j A dA B' dB')).1) = (thenW (trueV E) (prodV w i j (sumB (A ++ dA)) (sumB (B' ++ dB')))).1))]) := by
      intro B' dB' hB' hdB' mB' mdB' sB' oS' l1 l2 l3
      obtain ⟨u1, u2, u3⟩ := thenD (w := w) (i := i) (j := j) (f := trueV E) hA hdA hB' hdB' (by omega) (by omega)
      have c1 := prodV_okB (w := w) (i := i) (j := j) hA hB'
      have c2 := prodV_len (w := w) (i := i) (j := j) (A := A) (B := B')
      obtain ⟨v1, v2⟩ := thenW_okB (f := trueV E) c1
      have v3 := thenW_may (f := trueV E) (prodV_may w i j A B')
      obtain ⟨x1, x2, _⟩ := BothM_res v1 u1 v3 u2 (by omega) (by omega)
      have d1 := (thenW_okB (f := trueV E) (prodV_okB (w := w) (i := i) (j := j) q5 oS')).1
      exact ⟨Joined_res n0 n1 w i j E hE (P.map kE) b7 l8 A dA B' dB' hA hdA hB' hdB' (by omega) (by omega) (by omega) (by omega), joined_res n0 n1 w i j E hE P b7 l8 A B' hA hB' (by omega) (by omega),
        joined_res n0 n1 w i j E hE P b7 l8 _ _ q5 oS' (by omega) (by omega), x1, R05_Same_res x2 d1⟩
    cases z with
    | true =>
      obtain ⟨f1, f2, f3, f4, f5⟩ := fin A dA hA hdA m1 m2 s1 q5 k1 k2 (by omega)
      by_cases c1 : (thenW (trueV E) (deltaV w i j A dA A dA)).2 = 0
      · by_cases c2 : (thenW (trueV E) (prodV w i j A A)).2 = 0
        · by_cases c3 : (thenW (trueV E) (prodV w i j (sumB (A ++ dA)) (sumB (A ++ dA)))).2 = 0
          · have e := delta_adds m1 m1 m2 m2 s1 s1 c1 c2 c3
            rw [decide_eq_true e.symm] at f5
            simp only [m_L13_DeltaAdds, h1, g1, h2, g2, ok_some', out_some, res_test, res_stop, uB_0, Bool.not_true, Bool.not_false, Bool.false_eq_true, if_false, if_true, beq_self_eq_true, uI_0, uI_s, uL_0, uL_s, b0, h5, f1, f2, f3, f4, f5, c1, c2, c3]
          · have b3 : ((thenW (trueV E) (prodV w i j (sumB (A ++ dA)) (sumB (A ++ dA)))).2 != 0) = true := by simpa using c3
            simp only [m_L13_DeltaAdds, h1, g1, h2, g2, ok_some', out_some, res_test, res_stop, uB_0, Bool.not_true, Bool.not_false, Bool.false_eq_true, if_false, if_true, beq_self_eq_true, uI_0, uI_s, uL_0, uL_s, b0, h5, f1, f2, f3, c1, c2, b3]
        · have b2 : ((thenW (trueV E) (prodV w i j A A)).2 != 0) = true := by simpa using c2
          simp only [m_L13_DeltaAdds, h1, g1, h2, g2, ok_some', out_some, res_test, res_stop, uB_0, Bool.not_true, Bool.not_false, Bool.false_eq_true, if_false, if_true, beq_self_eq_true, uI_0, uI_s, uL_0, uL_s, b0, h5, f1, f2, f3, c1, b2]
      · have b1 : ((thenW (trueV E) (deltaV w i j A dA A dA)).2 != 0) = true := by simpa using c1
        have b1' : ((thenW (trueV E) (deltaV w i j A dA A dA)).2 == 0) = false := by simpa using c1
        simp only [m_L13_DeltaAdds, h1, g1, h2, g2, ok_some', out_some, res_test, res_stop, uB_0, Bool.not_true, Bool.not_false, Bool.false_eq_true, if_false, if_true, beq_self_eq_true, uI_0, uI_s, uL_0, uL_s, b0, h5, f1, f2, f3, b1, b1', thenW_err c1, List.map_nil, ln_nil]
    | false =>
      obtain ⟨f1, f2, f3, f4, f5⟩ := fin B dB hB hdB m3 m4 s2 q6 k3 k4 (by omega)
      by_cases c1 : (thenW (trueV E) (deltaV w i j A dA B dB)).2 = 0
      · by_cases c2 : (thenW (trueV E) (prodV w i j A B)).2 = 0
        · by_cases c3 : (thenW (trueV E) (prodV w i j (sumB (A ++ dA)) (sumB (B ++ dB)))).2 = 0
          · have e := delta_adds m1 m3 m2 m4 s1 s2 c1 c2 c3
            rw [decide_eq_true e.symm] at f5
            simp only [m_L13_DeltaAdds, h1, g1, h2, g2, ok_some', out_some, res_test, res_stop, uB_0, Bool.not_true, Bool.not_false, Bool.false_eq_true, if_false, if_true, beq_self_eq_true, uI_0, uI_s, uL_0, uL_s, b0, h5, h6, f1, f2, f3, f4, f5, c1, c2, c3]
          · have b3 : ((thenW (trueV E) (prodV w i j (sumB (A ++ dA)) (sumB (B ++ dB)))).2 != 0) = true := by simpa using c3
            simp only [m_L13_DeltaAdds, h1, g1, h2, g2, ok_some', out_some, res_test, res_stop, uB_0, Bool.not_true, Bool.not_false, Bool.false_eq_true, if_false, if_true, beq_self_eq_true, uI_0, uI_s, uL_0, uL_s, b0, h5, h6, f1, f2, f3, c1, c2, b3]
        · have b2 : ((thenW (trueV E) (prodV w i j A B)).2 != 0) = true := by simpa using c2
          simp only [m_L13_DeltaAdds, h1, g1, h2, g2, ok_some', out_some, res_test, res_stop, uB_0, Bool.not_true, Bool.not_false, Bool.false_eq_true, if_false, if_true, beq_self_eq_true, uI_0, uI_s, uL_0, uL_s, b0, h5, h6, f1, f2, f3, c1, b2]
      · have b1 : ((thenW (trueV E) (deltaV w i j A dA B dB)).2 != 0) = true := by simpa using c1
        have b1' : ((thenW (trueV E) (deltaV w i j A dA B dB)).2 == 0) = false := by simpa using c1
        simp only [m_L13_DeltaAdds, h1, g1, h2, g2, ok_some', out_some, res_test, res_stop, uB_0, Bool.not_true, Bool.not_false, Bool.false_eq_true, if_false, if_true, beq_self_eq_true, uI_0, uI_s, uL_0, uL_s, b0, h5, h6, f1, f2, f3, b1, b1', thenW_err c1, List.map_nil, ln_nil]

end
end
end Go.Proofs.YtikmahlogjcieaaGreat

set_option linter.unusedVariables false
set_option linter.unusedSimpArgs false
namespace Go.Proofs.YtikmahlogjcieaaGreat
open Go Go.Pu

theorem gd_ints {x : PV} (h : Gd Tryz.prog (.sl 3) x) : ∃ l : List Int, x = .lst 3 (l.map kE) ∧ l.length ≤ 140737488355328 := by
  obtain ⟨l, e, h1, _⟩ := gd_listC (f := kE) (p := fun _ => True) (ks := [.int .i64]) (b := 8) (by kernel_rfl) (by kernel_rfl) (by decide) (fun e he => by
    obtain ⟨hl, hg⟩ := gds_cells he
    match e, hl, hg with
    | [a], _, hg =>
      obtain ⟨n, rfl, hn⟩ := gd_int (hg 0 (by decide))
      exact ⟨n, rfl, trivial⟩) h
  exact ⟨l, e, h1⟩

theorem gd_boolV {x : PV} (h : Gd Tryz.prog .bool x) : ∃ b, x = pB b := by
  cases h with
  | bool b => exact ⟨b, rfl⟩

def Vw.e (v : Vw) : List PV := [pS (bs v.n0), pS (bs v.n1), pS (bs v.w), pI v.i, pI v.j, .lst 58 (v.wh.map Nd.e), .lst 3 (v.pk.map kE), pB v.g, .lst 165 v.ag]
def Vw.us (v : Vw) : List U := [.s (bs v.n0), .s (bs v.n1), .s (bs v.w), .i v.i, .i v.j, .l (v.wh.map Nd.e), .l (v.pk.map kE), .b v.g, .l v.ag]

set_option maxRecDepth 100000 in
theorem arg_view {x : PV} (h : ArgGd Tryz.prog 28 x) : ∃ v : Vw, x = .agg v.e ∧ v.ok := by
  have e : ArgGd Tryz.prog 28 x = ∃ xs, x = .agg xs ∧ Gds Tryz.prog [.str, .str, .str, .int .i64, .int .i64, .sl 58, .sl 3, .bool, .sl 165] xs := by kernel_rfl
  rw [e] at h
  obtain ⟨xs, rfl, hg⟩ := h
  obtain ⟨hl, hg⟩ := gds_cells hg
  match xs, hl, hg with
  | [a, b, c, d, f, g, k, m, n], _, hg =>
    obtain ⟨n0, rfl, _⟩ := gd_str (hg 0 (by decide))
    obtain ⟨n1, rfl, _⟩ := gd_str (hg 1 (by decide))
    obtain ⟨w, rfl, _⟩ := gd_str (hg 2 (by decide))
    obtain ⟨i, rfl, _⟩ := gd_int (hg 3 (by decide))
    obtain ⟨j, rfl, _⟩ := gd_int (hg 4 (by decide))
    obtain ⟨E, rfl, e1, e2⟩ := gd_nodes (hg 5 (by decide))
    obtain ⟨P, rfl, p1⟩ := gd_ints (hg 6 (by decide))
    obtain ⟨z, rfl⟩ := gd_boolV (hg 7 (by decide))
    obtain ⟨ag, rfl, _, _⟩ := gd_lst (hg 8 (by decide))
    exact ⟨⟨n0, n1, w, i, j, E, P, z, ag⟩, rfl, e2, e1, p1⟩

set_option maxRecDepth 100000 in
theorem arg_four {x : PV} (h : ArgGd Tryz.prog 41 x) : ∃ A B C D : List Cnt, x = .agg [.lst 54 (A.map Cnt.e), .lst 54 (B.map Cnt.e), .lst 54 (C.map Cnt.e), .lst 54 (D.map Cnt.e)] ∧ okB A ∧ okB B ∧ okB C ∧ okB D := by
  have e : ArgGd Tryz.prog 41 x = ∃ xs, x = .agg xs ∧ Gds Tryz.prog [.sl 54, .sl 54, .sl 54, .sl 54] xs := by kernel_rfl
  rw [e] at h
  obtain ⟨xs, rfl, hg⟩ := h
  obtain ⟨hl, hg⟩ := gds_cells hg
  match xs, hl, hg with
  | [a, b, c, d], _, hg =>
    obtain ⟨A, rfl, a1, a2⟩ := gd_bag (hg 0 (by decide))
    obtain ⟨B, rfl, b1, b2⟩ := gd_bag (hg 1 (by decide))
    obtain ⟨C, rfl, c1, c2⟩ := gd_bag (hg 2 (by decide))
    obtain ⟨D, rfl, d1, d2⟩ := gd_bag (hg 3 (by decide))
    exact ⟨A, B, C, D, rfl, ⟨a1, a2⟩, ⟨b1, b2⟩, ⟨c1, c2⟩, ⟨d1, d2⟩⟩

end Go.Proofs.YtikmahlogjcieaaGreat
