/- Plain words for told data: orders, lists, rounds. -/
import Derived.Test.YtkaljlpbmbfpgaaGreatDoorTB
set_option linter.unusedSimpArgs false
set_option linter.unusedVariables false
namespace Go.Pu

/-! tests -/

@[simp] theorem rt_stop (j : Nat) (us : List U) : (Rt.stop j us).val = some (.stop j us) := rfl
@[simp] theorem rt_next (us : List U) : (Rt.next us).val = some (.next us) := rfl
@[simp] theorem rt_fail : Rt.fail.val = none := rfl
@[simp] theorem rt_test (b : Bool) (x y : Rt) : (Rt.test b x y).val = if b = true then x.val else y.val := rfl
@[simp] theorem res_stop (j : Nat) (us : List U) : (Rt.stop j us).res = some (j, us) := rfl
@[simp] theorem res_fail : Rt.fail.res = none := rfl
@[simp] theorem res_test (b : Bool) (x y : Rt) : (Rt.test b x y).res = if b = true then x.res else y.res := by
 cases b <;> rfl
@[simp] theorem ok_some' (j k : Nat) (us : List U) : ok (some (j, us)) k = (k == j) := rfl
@[simp] theorem out_some (j k : Nat) (us : List U) : out (some (j, us)) k = us := rfl

section
variable (a : U) (us : List U) (n : Nat)
@[simp] theorem uI_0 (x : Int) : uI (.i x :: us) 0 = x := rfl
@[simp] theorem uB_0 (x : Bool) : uB (.b x :: us) 0 = x := rfl
@[simp] theorem uS_0 (x : ByteArray) : uS (.s x :: us) 0 = x := rfl
@[simp] theorem uL_0 (x : List (List PV)) : uL (.l x :: us) 0 = x := rfl
@[simp] theorem uN_0 (x : Nat) : uN (.n x :: us) 0 = x := rfl
@[simp] theorem uC_0 (x : List PV) : uC (.c x :: us) 0 = x := rfl
@[simp] theorem uI_s : uI (a :: us) (n + 1) = uI us n := rfl
@[simp] theorem uB_s : uB (a :: us) (n + 1) = uB us n := rfl
@[simp] theorem uS_s : uS (a :: us) (n + 1) = uS us n := rfl
@[simp] theorem uL_s : uL (a :: us) (n + 1) = uL us n := rfl
@[simp] theorem uN_s : uN (a :: us) (n + 1) = uN us n := rfl
@[simp] theorem uC_s : uC (a :: us) (n + 1) = uC us n := rfl
end

theorem w64_eq {n : Int} (h1 : -9223372036854775808 ≤ n) (h2 : n < 9223372036854775808) : w64 n = n := wrap_i64 h1 h2

@[simp] theorem cI_0 (k : IntKind) (x : Int) (e : List PV) : cI (.int k x :: e) 0 = x := rfl
@[simp] theorem cI_p (x : Int) (e : List PV) : cI (pI x :: e) 0 = x := rfl
@[simp] theorem cS_p (x : ByteArray) (e : List PV) : cS (pS x :: e) 0 = x := rfl
@[simp] theorem cB_p (x : Bool) (e : List PV) : cB (pB x :: e) 0 = x := rfl
@[simp] theorem cL_0 (t : TypeId) (x : List (List PV)) (e : List PV) : cL (.lst t x :: e) 0 = x := rfl
@[simp] theorem cI_s (a : PV) (e : List PV) (n : Nat) : cI (a :: e) (n + 1) = cI e n := rfl
@[simp] theorem cS_s (a : PV) (e : List PV) (n : Nat) : cS (a :: e) (n + 1) = cS e n := rfl
@[simp] theorem cB_s (a : PV) (e : List PV) (n : Nat) : cB (a :: e) (n + 1) = cB e n := rfl
@[simp] theorem cL_s (a : PV) (e : List PV) (n : Nat) : cL (a :: e) (n + 1) = cL e n := rfl

@[simp] theorem ln_map {α : Type} (f : α → List PV) (l : List α) : ln (l.map f) = l.length := by simp [ln]
@[simp] theorem ln_nil : ln [] = 0 := rfl
theorem el_map {α : Type} (f : α → List PV) (l : List α) {i : Nat} (h : i < l.length) : el (l.map f) i = f l[i] := by
 simp [el, List.getD, h]
@[simp] theorem inR_cast (i n : Nat) : inR (i : Int) (n : Int) = decide (i < n) := by
 simp only [inR, Int.natCast_nonneg, true_and, Int.ofNat_lt]
@[simp] theorem inR_zero (n : Nat) : inR 0 (n : Int) = decide (0 < n) := inR_cast 0 n
theorem w64_succ {i : Nat} (h : i < 4611686018427387904) : w64 ((i : Int) + 1) = ((i + 1 : Nat) : Int) := by
 rw [w64_eq (by omega) (by omega)]; omega
theorem inR_iff {i n : Int} : inR i n = true ↔ 0 ≤ i ∧ i < n := by simp [inR]

/-! rounds -/

/-- a loop that looks for the first element that is not so -/
theorem loop_all {α : Type} (l : List α) {rd : List U → Rt} (st : Nat → List U) (p : α → Bool) (j0 j1 : Nat) (u0 : Nat → List U) (u1 : List U)
  (hend : (rd (st l.length)).val = some (.stop j1 u1))
  (hstep : ∀ i (h : i < l.length), (rd (st i)).val = if p l[i] = true then some (.next (st (i + 1))) else some (.stop j0 (u0 i))) :
  (l.all p = true ∧ lres rd (st 0) = some (j1, u1)) ∨ (l.all p = false ∧ ∃ i, ∃ h : i < l.length, p l[i] = false ∧ (∀ j (h : j < i), p l[j] = true) ∧ lres rd (st 0) = some (j0, u0 i)) := by
 have key : ∀ n i, i + n = l.length → (∀ j (h : j < l.length), j < i → p l[j] = true) → lres rd (st 0) = lres rd (st i) →
   (l.all p = true ∧ lres rd (st 0) = some (j1, u1)) ∨ (l.all p = false ∧ ∃ i, ∃ h : i < l.length, p l[i] = false ∧ (∀ j (h : j < i), p l[j] = true) ∧ lres rd (st 0) = some (j0, u0 i)) := by
  intro n
  induction n with
  | zero =>
   intro i hi hp he
   have : i = l.length := by omega
   subst this
   refine .inl ⟨?_, he.trans (lres_stop hend)⟩
   rw [List.all_eq_true]
   intro x hx
   obtain ⟨j, hj, rfl⟩ := List.mem_iff_getElem.1 hx
   exact hp j hj hj
  | succ n ih =>
   intro i hi hp he
   have h : i < l.length := by omega
   have hs := hstep i h
   by_cases hq : p l[i] = true
   ·rw [if_pos hq] at hs
    refine ih (i + 1) (by omega) (fun j hj hji => ?_) (he.trans (lres_next hs))
    by_cases e : j = i
    ·subst e; exact hq
    ·exact hp j hj (by omega)
   ·rw [if_neg hq] at hs
    have hq' : p l[i] = false := by simpa using hq
    refine .inr ⟨?_, i, h, hq', fun j hj => hp j (by omega) hj, he.trans (lres_stop hs)⟩
    cases ha : l.all p with
    | false => rfl
    | true => exact absurd (List.all_eq_true.1 ha l[i] (List.getElem_mem h)) hq
 exact key l.length 0 (by omega) (fun j hj h => by omega) rfl

/-- the same where it is told only whether all are so -/
theorem loop_all' {α : Type} (l : List α) {rd : List U → Rt} (st : Nat → List U) (p : α → Bool) (j0 j1 : Nat) (u0 u1 : List U)
  (hend : (rd (st l.length)).val = some (.stop j1 u1))
  (hstep : ∀ i (h : i < l.length), (rd (st i)).val = if p l[i] = true then some (.next (st (i + 1))) else some (.stop j0 u0)) :
  lres rd (st 0) = if l.all p = true then some (j1, u1) else some (j0, u0) := by
 rcases loop_all l st p j0 j1 (fun _ => u0) u1 hend hstep with ⟨h1, h2⟩ | ⟨h1, i, h, _, _, h2⟩
 ·rw [if_pos h1, h2]
 ·rw [if_neg (by rw [h1]; decide), h2]

/-- a loop that looks for the first place that is not so -/
theorem loop_ix (n : Nat) {rd : List U → Rt} (st : Nat → List U) (p : Nat → Bool) (j0 j1 : Nat) (u0 : Nat → List U) (u1 : List U)
  (hend : (rd (st n)).val = some (.stop j1 u1))
  (hstep : ∀ i, i < n → (∀ j, j < i → p j = true) → (rd (st i)).val = if p i = true then some (.next (st (i + 1))) else some (.stop j0 (u0 i))) :
  ((∀ i, i < n → p i = true) ∧ lres rd (st 0) = some (j1, u1)) ∨ ∃ i, i < n ∧ p i = false ∧ (∀ j, j < i → p j = true) ∧ lres rd (st 0) = some (j0, u0 i) := by
 have key : ∀ m i, i + m = n → (∀ j, j < i → p j = true) → lres rd (st 0) = lres rd (st i) →
   ((∀ i, i < n → p i = true) ∧ lres rd (st 0) = some (j1, u1)) ∨ ∃ i, i < n ∧ p i = false ∧ (∀ j, j < i → p j = true) ∧ lres rd (st 0) = some (j0, u0 i) := by
  intro m
  induction m with
  | zero =>
   intro i hi hp he
   have : i = n := by omega
   subst this
   exact .inl ⟨hp, he.trans (lres_stop hend)⟩
  | succ m ih =>
   intro i hi hp he
   have hs := hstep i (by omega) hp
   by_cases hq : p i = true
   ·rw [if_pos hq] at hs
    refine ih (i + 1) (by omega) (fun j hj => ?_) (he.trans (lres_next hs))
    by_cases e : j = i
    ·subst e; exact hq
    ·exact hp j (by omega)
   ·rw [if_neg hq] at hs
    exact .inr ⟨i, by omega, by simpa using hq, hp, he.trans (lres_stop hs)⟩
 exact key n 0 (by omega) (fun j hj => by omega) rfl

/-- a loop over a list's places whose state hangs on what was passed -/
theorem loop_acc {rd : List U → Rt} (n : Nat) (st : Nat → List U) (r : Rs) (hend : lres rd (st n) = r)
  (hstep : ∀ i < n, (rd (st i)).val = some (.next (st (i + 1)))) : lres rd (st 0) = r := by
 have key : ∀ m i, i + m = n → lres rd (st i) = r := by
  intro m
  induction m with
  | zero => intro i hi; have : i = n := by omega
            subst this; exact hend
  | succ m ih => intro i hi; rw [lres_next (hstep i (by omega)), ih (i + 1) (by omega)]
 exact key n 0 (by omega)

/-! bytes -/

def bs (l : List UInt8) : ByteArray := ⟨l.toArray⟩
@[simp] theorem bs_data (l : List UInt8) : (bs l).data.toList = l := rfl
@[simp] theorem bs_toList (l : List UInt8) : (bs l).toList = l := by rw [ByteArray.toList_eq]; rfl
@[simp] theorem bs_size (l : List UInt8) : (bs l).size = l.length := rfl
theorem bs_nil : ({ data := #[] } : ByteArray) = bs [] := rfl
/-! orders -/

structure Cmp {α : Type} (c : α → α → Int) : Prop where
 rng : ∀ a b, c a b = -1 ∨ c a b = 0 ∨ c a b = 1
 zero : ∀ a b, c a b = 0 ↔ a = b
 anti : ∀ a b, c b a = - c a b
 trans : ∀ a b d, c a b ≤ 0 → c b d ≤ 0 → c a d ≤ 0

namespace Cmp
variable {α β : Type} {c : α → α → Int} {c' : β → β → Int}

theorem self (h : Cmp c) (a : α) : c a a = 0 := (h.zero a a).2 rfl
theorem lt_of_lt_of_le (h : Cmp c) {a b d : α} (h1 : c a b < 0) (h2 : c b d ≤ 0) : c a d < 0 := by
 have h3 := h.trans a b d (by omega) h2
 rcases Int.lt_or_eq_of_le h3 with h4 | h4
 ·exact h4
 ·rw [h.zero] at h4; subst h4; have := h.anti a b; omega
theorem lt_trans (h : Cmp c) {a b d : α} (h1 : c a b < 0) (h2 : c b d < 0) : c a d < 0 := h.lt_of_lt_of_le h1 (by omega)

def cmpI (a b : Int) : Int := if a < b then -1 else if a > b then 1 else 0

theorem int : Cmp cmpI where
 rng a b := by unfold cmpI; (repeat' split) <;> simp
 zero a b := by unfold cmpI; (repeat' split) <;> omega
 anti a b := by unfold cmpI; (repeat' split) <;> omega
 trans a b d := by unfold cmpI; (repeat' split) <;> (intros; omega)

/-- the first, and if that is the same the second -/
def thn (x y : Int) : Int := if x != 0 then x else y

theorem thn_neg (x y : Int) : thn (-x) (-y) = - thn x y := by
 unfold thn
 by_cases e : x = 0
 ·subst e; simp
 ·rw [if_pos (by simpa using e), if_pos (by simpa using e)]

theorem both (h : Cmp c) (k : Cmp c') : Cmp (fun (a b : α × β) => thn (c a.1 b.1) (c' a.2 b.2)) where
 rng a b := by
  unfold thn
  split
  ·exact h.rng _ _
  ·exact k.rng _ _
 zero a b := by
  unfold thn
  by_cases e : c a.1 b.1 = 0
  ·rw [e, if_neg (by simp), k.zero]
   rw [h.zero] at e
   constructor
   ·intro e2; exact Prod.ext e e2
   ·intro e2; rw [e2]
  ·rw [if_pos (by simpa using e)]
   constructor
   ·intro e2; exact absurd e2 e
   ·intro e2; rw [e2] at e; exact absurd (h.self _) e
 anti a b := by
  rw [h.anti a.1 b.1, k.anti a.2 b.2, thn_neg]
 trans a b d := by
  intro h1 h2
  unfold thn at *
  by_cases e1 : c a.1 b.1 = 0
  ·have e1' := (h.zero _ _).1 e1
   rw [e1, if_neg (by simp)] at h1
   by_cases e2 : c b.1 d.1 = 0
   ·rw [e2, if_neg (by simp)] at h2
    rw [e1', e2, if_neg (by simp)]
    exact k.trans _ _ _ h1 h2
   ·rw [if_pos (by simpa using e2)] at h2
    rw [e1', if_pos (by simpa using e2)]; exact h2
  ·rw [if_pos (by simpa using e1)] at h1
   by_cases e2 : c b.1 d.1 = 0
   ·rw [h.zero] at e2
    rw [← e2, if_pos (by simpa using e1)]; exact h1
   ·rw [if_pos (by simpa using e2)] at h2
    have := h.lt_trans (show c a.1 b.1 < 0 by omega) (show c b.1 d.1 < 0 by omega)
    rw [if_pos (by simp; omega)]; omega

theorem pull (h : Cmp c) (f : β → α) (hf : ∀ a b, f a = f b → a = b) : Cmp (fun a b => c (f a) (f b)) where
 rng a b := h.rng _ _
 zero a b := (h.zero _ _).trans ⟨hf a b, fun e => by rw [e]⟩
 anti a b := h.anti _ _
 trans a b d := h.trans _ _ _

/-- one element behind the other; what ends first stands ahead -/
def lstC (c : α → α → Int) : List α → List α → Int
 | [], [] => 0
 | [], _ :: _ => -1
 | _ :: _, [] => 1
 | x :: xs, y :: ys => thn (c x y) (lstC c xs ys)

theorem list (h : Cmp c) : Cmp (lstC c) where
 rng a := by
  induction a with
  | nil => intro b; cases b <;> simp [lstC]
  | cons x xs ih =>
   intro b
   cases b with
   | nil => simp [lstC]
   | cons y ys => simp only [lstC]; unfold thn; split
                  ·exact h.rng _ _
                  ·exact ih ys
 zero a := by
  induction a with
  | nil => intro b; cases b <;> simp [lstC]
  | cons x xs ih =>
   intro b
   cases b with
   | nil => simp [lstC]
   | cons y ys =>
    simp only [lstC, List.cons.injEq]
    unfold thn
    by_cases e : c x y = 0
    ·rw [e, if_neg (by simp), ih]
     rw [h.zero] at e
     simp [e]
    ·rw [if_pos (by simpa using e)]
     have : x ≠ y := fun e2 => e ((h.zero _ _).2 e2)
     simp [e, this]
 anti a := by
  induction a with
  | nil => intro b; cases b <;> simp [lstC]
  | cons x xs ih =>
   intro b
   cases b with
   | nil => simp [lstC]
   | cons y ys =>
    simp only [lstC]
    rw [h.anti x y, ih ys, thn_neg]
 trans a := by
  induction a with
  | nil => intro b d _ _; cases d <;> simp [lstC]
  | cons x xs ih =>
   intro b d h1 h2
   cases b with
   | nil => simp [lstC] at h1
   | cons y ys =>
    cases d with
    | nil => simp [lstC] at h2
    | cons z zs =>
     simp only [lstC] at *
     unfold thn at *
     by_cases e1 : c x y = 0
     ·have e1' := (h.zero _ _).1 e1
      rw [e1, if_neg (by simp)] at h1
      by_cases e2 : c y z = 0
      ·rw [e2, if_neg (by simp)] at h2
       rw [e1', e2, if_neg (by simp)]
       exact ih _ _ h1 h2
      ·rw [if_pos (by simpa using e2)] at h2
       rw [e1', if_pos (by simpa using e2)]; exact h2
     ·rw [if_pos (by simpa using e1)] at h1
      by_cases e2 : c y z = 0
      ·rw [h.zero] at e2
       rw [← e2, if_pos (by simpa using e1)]; exact h1
      ·rw [if_pos (by simpa using e2)] at h2
       have := h.lt_trans (show c x y < 0 by omega) (show c y z < 0 by omega)
       rw [if_pos (by simp; omega)]; omega
end Cmp
end Go.Pu
