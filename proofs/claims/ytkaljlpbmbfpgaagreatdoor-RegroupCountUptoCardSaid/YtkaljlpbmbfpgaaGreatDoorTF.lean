/- Plain words for sorting in place: ranges swapped, rotated; what is sorted, and a permutation. -/
import Derived.Test.YtkaljlpbmbfpgaaGreatDoorTC
set_option linter.unusedSimpArgs false
set_option linter.unusedVariables false
namespace Go.Pu

section
variable {α : Type}

/-- the first N of something -/
def tab (N : Nat) (f : Nat → α) : List α := (List.range N).map f
@[simp] theorem tab_length (N : Nat) (f : Nat → α) : (tab N f).length = N := by simp [tab]
theorem tab_get (N : Nat) (f : Nat → α) {i : Nat} (h : i < (tab N f).length) : (tab N f)[i] = f i := by simp [tab]
theorem tab_of (l : List α) (d : α) : tab l.length (fun i => l.getD i d) = l := by
 apply List.ext_getElem (by simp)
 intro i h1 h2
 rw [tab_get]
 simp [List.getD, h2]

def updF (f : Nat → α) (i : Nat) (x : α) : Nat → α := fun k => if k = i then x else f k
theorem tab_set (N : Nat) (f : Nat → α) (i : Nat) (x : α) : (tab N f).set i x = tab N (updF f i x) := by
 apply List.ext_getElem (by simp)
 intro k h1 h2
 rw [List.getElem_set, tab_get, tab_get]
 unfold updF
 by_cases h : i = k
 ·subst h; simp
 ·rw [if_neg h, if_neg (fun e => h e.symm)]

/-- two places exchanged -/
def sw1 (f : Nat → α) (i j : Nat) : Nat → α := fun k => if k = j then f i else if k = i then f j else f k
theorem updF_updF (f : Nat → α) (i j : Nat) : updF (updF f i (f j)) j (f i) = sw1 f i j := by
 funext k; simp only [updF, sw1]

theorem sw1_perm (N : Nat) (f : Nat → α) {i j : Nat} (hi : i < N) (hj : j < N) : (tab N (sw1 f i j)).Perm (tab N f) := by
 have := List.set_set_perm (as := tab N f) (i := i) (j := j) (by simpa using hi) (by simpa using hj)
 rw [tab_get, tab_get, tab_set, tab_set] at this
 rwa [updF_updF] at this

/-- two ranges exchanged -/
def sw (f : Nat → α) (a b n : Nat) : Nat → α := fun k => if a ≤ k ∧ k < a + n then f (k - a + b) else if b ≤ k ∧ k < b + n then f (k - b + a) else f k
theorem sw_0 (f : Nat → α) (a b : Nat) : sw f a b 0 = f := by
 funext k; simp only [sw]; rw [if_neg (by omega), if_neg (by omega)]
theorem sw_succ (f : Nat → α) {a b n : Nat} (h : a + (n + 1) ≤ b) : sw1 (sw f a b n) (a + n) (b + n) = sw f a b (n + 1) := by
 funext k
 simp only [sw, sw1]
 repeat' split
 all_goals first | rfl | (exfalso; omega) | (congr 1; omega)

theorem sw_perm (N : Nat) (f : Nat → α) {a b : Nat} : ∀ n, a + n ≤ b → b + n ≤ N → (tab N (sw f a b n)).Perm (tab N f)
 | 0, _, _ => by rw [sw_0]
 | n + 1, h1, h2 => by
  rw [← sw_succ f h1]
  exact (sw1_perm N _ (by omega) (by omega)).trans (sw_perm N f n (by omega) (by omega))

/-- [a,m) and [m,b) exchanged, each in its order -/
def rt (f : Nat → α) (a m b : Nat) : Nat → α := fun k => if a ≤ k ∧ k < a + (b - m) then f (k + m - a) else if a + (b - m) ≤ k ∧ k < b then f (k - (b - m)) else f k

theorem rt_gt (f : Nat → α) {m i j : Nat} (hi : i ≤ m) (hj : 0 < j) (h : j < i) : rt (sw f (m - i) m j) (m - (i - j)) m (m + j) = rt f (m - i) m (m + j) := by
 funext k
 simp only [rt, sw]
 repeat' split
 all_goals first | rfl | (exfalso; omega) | (congr 1; omega)
theorem rt_lt (f : Nat → α) {m i j : Nat} (hi : i ≤ m) (h0 : 0 < i) (h : i < j) : rt (sw f (m - i) (m + j - i) i) (m - i) m (m + (j - i)) = rt f (m - i) m (m + j) := by
 funext k
 simp only [rt, sw]
 repeat' split
 all_goals first | rfl | (exfalso; omega) | (congr 1; omega)
theorem rt_eq (f : Nat → α) {m i : Nat} (hi : i ≤ m) : sw f (m - i) m i = rt f (m - i) m (m + i) := by
 funext k
 simp only [rt, sw]
 repeat' split
 all_goals first | rfl | (exfalso; omega) | (congr 1; omega)

/-! what is sorted -/

structure Pre (c : α → α → Int) : Prop where
 anti : ∀ a b, c b a = - c a b
 trans : ∀ a b d, c a b ≤ 0 → c b d ≤ 0 → c a d ≤ 0

def srt (c : α → α → Int) (f : Nat → α) (a b : Nat) : Prop := ∀ i j, a ≤ i → i ≤ j → j < b → c (f i) (f j) ≤ 0

theorem Pre.self {c : α → α → Int} (h : Pre c) (x : α) : c x x ≤ 0 := by have := h.anti x x; omega

theorem srt_one {c : α → α → Int} (h : Pre c) (f : Nat → α) {a b : Nat} (hb : b ≤ a + 1) : srt c f a b := by
 intro i j h1 h2 h3
 have : i = j := by omega
 subst this; exact h.self _

theorem srt_sub {c : α → α → Int} {f : Nat → α} {a b a' b' : Nat} (h : srt c f a b) (ha : a ≤ a') (hb : b' ≤ b) : srt c f a' b' :=
 fun i j h1 h2 h3 => h i j (by omega) h2 (by omega)

theorem srt_congr {c : α → α → Int} {f g : Nat → α} {a b : Nat} (h : srt c f a b) (he : ∀ k, a ≤ k → k < b → g k = f k) : srt c g a b := by
 intro i j h1 h2 h3
 rw [he i h1 (by omega), he j (by omega) h3]; exact h i j h1 h2 h3

theorem srt_app {c : α → α → Int} {f : Nat → α} {a m b : Nat} (h1 : srt c f a m) (h2 : srt c f m b) (h : ∀ i j, a ≤ i → i < m → m ≤ j → j < b → c (f i) (f j) ≤ 0) : srt c f a b := by
 intro i j g1 g2 g3
 by_cases e : j < m
 ·exact h1 i j g1 g2 e
 ·by_cases e2 : i < m
  ·exact h i j g1 e2 (by omega) g3
  ·exact h2 i j (by omega) g2 g3

/-- nothing but [a,b) was moved, within itself -/
structure Mv (N a b : Nat) (g f : Nat → α) : Prop where
 out : ∀ k, k < a ∨ b ≤ k → g k = f k
 frm : ∀ k, a ≤ k → k < b → ∃ k', a ≤ k' ∧ k' < b ∧ g k = f k'
 perm : (tab N g).Perm (tab N f)

theorem Mv.refl (N a b : Nat) (f : Nat → α) : Mv N a b f f := ⟨fun _ _ => rfl, fun k h1 h2 => ⟨k, h1, h2, rfl⟩, .refl _⟩
theorem Mv.trans {N a b : Nat} {h g f : Nat → α} (h1 : Mv N a b h g) (h2 : Mv N a b g f) : Mv N a b h f where
 out k hk := (h1.out k hk).trans (h2.out k hk)
 frm k g1 g2 := by
  obtain ⟨k', e1, e2, e3⟩ := h1.frm k g1 g2
  obtain ⟨k2, d1, d2, d3⟩ := h2.frm k' e1 e2
  exact ⟨k2, d1, d2, e3.trans d3⟩
 perm := h1.perm.trans h2.perm
theorem Mv.wide {N a b a' b' : Nat} {g f : Nat → α} (h : Mv N a b g f) (ha : a' ≤ a) (hb : b ≤ b') : Mv N a' b' g f where
 out k hk := h.out k (by omega)
 frm k g1 g2 := by
  by_cases e : a ≤ k ∧ k < b
  ·obtain ⟨k', e1, e2, e3⟩ := h.frm k e.1 e.2
   exact ⟨k', by omega, by omega, e3⟩
  ·exact ⟨k, g1, g2, h.out k (by omega)⟩
 perm := h.perm
theorem Mv.sw1 {N a b : Nat} (f : Nat → α) {i j : Nat} (hi : a ≤ i ∧ i < b) (hj : a ≤ j ∧ j < b) (hb : b ≤ N) : Mv N a b (Pu.sw1 f i j) f where
 out k hk := by simp only [Pu.sw1]; rw [if_neg (by omega), if_neg (by omega)]
 frm k g1 g2 := by
  simp only [Pu.sw1]
  by_cases e : k = j
  ·exact ⟨i, hi.1, hi.2, by rw [if_pos e]⟩
  ·by_cases e2 : k = i
   ·exact ⟨j, hj.1, hj.2, by rw [if_neg e, if_pos e2]⟩
   ·exact ⟨k, g1, g2, by rw [if_neg e, if_neg e2]⟩
 perm := sw1_perm N f (by omega) (by omega)

/-- one step of an insertion -/
structure Ins (c : α → α → Int) (f : Nat → α) (a i j : Nat) : Prop where
 lo : srt c f a j
 hi : srt c f j (i + 1)
 mid : ∀ p q, a ≤ p → p < j → j < q → q ≤ i → c (f p) (f q) ≤ 0

theorem Ins.start {c : α → α → Int} (h : Pre c) {f : Nat → α} {a i : Nat} (hs : srt c f a i) : Ins c f a i i :=
 ⟨hs, srt_one h f (by omega), fun p q _ _ h1 h2 => by omega⟩
theorem Ins.next {c : α → α → Int} (h : Pre c) {f : Nat → α} {a i j : Nat} (hI : Ins c f a i j) (hj : a < j) (hi : j ≤ i) (hc : c (f j) (f (j - 1)) < 0) : Ins c (Pu.sw1 f j (j - 1)) a i (j - 1) where
 lo := srt_congr (srt_sub hI.lo (Nat.le_refl _) (by omega)) fun k h1 h2 => by simp only [Pu.sw1]; rw [if_neg (by omega), if_neg (by omega)]
 hi := by
  have e1 : Pu.sw1 f j (j - 1) (j - 1) = f j := by simp [Pu.sw1]
  have e2 : Pu.sw1 f j (j - 1) j = f (j - 1) := by rw [Pu.sw1, if_neg (by omega), if_pos rfl]
  have e3 : ∀ q, j < q → Pu.sw1 f j (j - 1) q = f q := fun q hq => by simp only [Pu.sw1]; rw [if_neg (by omega), if_neg (by omega)]
  intro p q h1 h2 h3
  by_cases hp : p = j - 1
  ·subst hp
   rw [e1]
   by_cases hq : q = j - 1
   ·subst hq; rw [e1]; exact h.self _
   ·by_cases hq2 : q = j
    ·rw [hq2, e2]; omega
    ·rw [e3 q (by omega)]; exact hI.hi j q (by omega) (by omega) (by omega)
  ·by_cases hp2 : p = j
   ·rw [hp2, e2]
    by_cases hq2 : q = j
    ·rw [hq2, e2]; exact h.self _
    ·rw [e3 q (by omega)]; exact hI.mid _ q (by omega) (by omega) (by omega) (by omega)
   ·rw [e3 p (by omega), e3 q (by omega)]; exact hI.hi p q (by omega) (by omega) (by omega)
 mid := by
  intro p q h1 h2 h3 h4
  have e0 : Pu.sw1 f j (j - 1) p = f p := by simp only [Pu.sw1]; rw [if_neg (by omega), if_neg (by omega)]
  rw [e0]
  by_cases hq2 : q = j
  ·have e2 : Pu.sw1 f j (j - 1) j = f (j - 1) := by rw [Pu.sw1, if_neg (by omega), if_pos rfl]
   rw [hq2, e2]; exact hI.lo p (j - 1) h1 (by omega) (by omega)
  ·have e3 : Pu.sw1 f j (j - 1) q = f q := by simp only [Pu.sw1]; rw [if_neg (by omega), if_neg (by omega)]
   rw [e3]; exact hI.mid p q h1 (by omega) (by omega) h4
theorem Ins.done0 {c : α → α → Int} {f : Nat → α} {a i : Nat} (hI : Ins c f a i a) : srt c f a (i + 1) := hI.hi
theorem Ins.done {c : α → α → Int} (h : Pre c) {f : Nat → α} {a i j : Nat} (hI : Ins c f a i j) (hj : a < j) (hi : j ≤ i) (hc : ¬ c (f j) (f (j - 1)) < 0) : srt c f a (i + 1) := by
 refine srt_app hI.lo hI.hi fun p q h1 h2 h3 h4 => ?_
 have e1 := hI.lo p (j - 1) h1 (by omega) (by omega)
 have e2 : c (f (j - 1)) (f j) ≤ 0 := by have := h.anti (f (j - 1)) (f j); omega
 have e3 := hI.hi j q (Nat.le_refl _) h3 h4
 exact h.trans _ _ _ e1 (h.trans _ _ _ e2 e3)

/-! halving -/

theorem bin_loop {rd : List U → Rt} (st : Nat → Nat → List U) (fin : Nat → List U) (p : Nat → Bool) (lo hi : Nat)
  (hstop : ∀ i, lo ≤ i → i ≤ hi → (rd (st i i)).val = some (.stop 0 (fin i)))
  (hstep : ∀ i j, lo ≤ i → i < j → j ≤ hi → (rd (st i j)).val = if p ((i + j) / 2) = true then some (.next (st ((i + j) / 2 + 1) j)) else some (.next (st i ((i + j) / 2)))) :
  ∀ s i j, j ≤ i + s → lo ≤ i → i ≤ j → j ≤ hi → (lo < i → p (i - 1) = true) → (j < hi → p j = false) →
  ∃ r, lo ≤ r ∧ r ≤ hi ∧ lres rd (st i j) = some (0, fin r) ∧ (lo < r → p (r - 1) = true) ∧ (r < hi → p r = false) := by
 intro s
 induction s with
 | zero =>
  intro i j h1 h2 h3 h4 h5 h6
  have : j = i := by omega
  subst this
  exact ⟨j, h2, h4, lres_stop (hstop j h2 h4), h5, h6⟩
 | succ s ih =>
  intro i j h1 h2 h3 h4 h5 h6
  by_cases e : i = j
  ·subst e; exact ⟨i, h2, h4, lres_stop (hstop i h2 h4), h5, h6⟩
  ·have hs := hstep i j h2 (by omega) h4
   by_cases hp : p ((i + j) / 2) = true
   ·rw [if_pos hp] at hs
    rw [lres_next hs]
    exact ih _ _ (by omega) (by omega) (by omega) h4 (fun _ => by simpa using hp) h6
   ·rw [if_neg hp] at hs
    rw [lres_next hs]
    exact ih _ _ (by omega) h2 (by omega) (by omega) h5 (fun _ => by simpa using hp)

/-! parts that are exchanged -/

theorem rt_up (f : Nat → α) (a t : Nat) : sw1 (rt f a (a + 1) (a + 1 + t)) (a + t) (a + t + 1) = rt f a (a + 1) (a + 1 + (t + 1)) := by
 funext k
 simp only [rt, sw1]
 repeat' split
 all_goals first | rfl | (exfalso; omega) | (congr 1; omega)
theorem rt_down (f : Nat → α) {m t : Nat} (h : t < m) : sw1 (rt f (m - t) m (m + 1)) (m - t) (m - t - 1) = rt f (m - (t + 1)) m (m + 1) := by
 funext k
 simp only [rt, sw1]
 repeat' split
 all_goals first | rfl | (exfalso; omega) | (congr 1; omega)
theorem rt_self (f : Nat → α) (m b : Nat) : rt f m m b = f := by
 funext k
 simp only [rt]
 repeat' split
 all_goals first | rfl | (exfalso; omega) | (congr 1; omega)
theorem rt_self' (f : Nat → α) (a m : Nat) : rt f a m m = f := by
 funext k
 simp only [rt]
 repeat' split
 all_goals first | rfl | (exfalso; omega) | (congr 1; omega)

/-- what is where, behind an exchange -/
theorem rt_x (f : Nat → α) {s m e k : Nat} (h : k < s) : rt f s m e k = f k := by simp only [rt]; rw [if_neg (by omega), if_neg (by omega)]
theorem rt_z (f : Nat → α) {s m e k : Nat} (h : s ≤ k) (h2 : k < s + (e - m)) : rt f s m e k = f (k + m - s) := by simp only [rt]; rw [if_pos ⟨h, h2⟩]
theorem rt_y (f : Nat → α) {s m e k : Nat} (h : s + (e - m) ≤ k) (h2 : k < e) : rt f s m e k = f (k - (e - m)) := by simp only [rt]; rw [if_neg (by omega), if_pos ⟨h, h2⟩]
theorem rt_w (f : Nat → α) {s m e k : Nat} (hs : s ≤ m) (hm : m ≤ e) (h : e ≤ k) : rt f s m e k = f k := by simp only [rt]; rw [if_neg (by omega), if_neg (by omega)]

structure Split (c : α → α → Int) (f : Nat → α) (a s m e b : Nat) : Prop where
 o1 : a ≤ s
 o2 : s ≤ m
 o3 : m ≤ e
 o4 : e ≤ b
 lo : srt c f a m
 hi : srt c f m b
 xw : s = a ∨ e = b ∨ c (f (s - 1)) (f e) ≤ 0
 zy : e = m ∨ s = m ∨ c (f (e - 1)) (f s) ≤ 0

theorem Split.cross {c : α → α → Int} (h : Pre c) {f : Nat → α} {a s m e b : Nat} (hS : Split c f a s m e b) :
  ∀ i j, a ≤ i → i < s + (e - m) → s + (e - m) ≤ j → j < b → c (rt f s m e i) (rt f s m e j) ≤ 0 := by
 obtain ⟨o1, o2, o3, o4, lo, hi, xw, zy⟩ := hS
 intro i j h1 h2 h3 h4
 by_cases hi1 : i < s
 ·rw [rt_x f hi1]
  by_cases hj : j < e
  ·rw [rt_y f h3 hj]; exact lo _ _ h1 (by omega) (by omega)
  ·rw [rt_w f o2 o3 (by omega)]
   rcases xw with e1 | e1 | e1
   ·omega
   ·omega
   ·exact h.trans _ _ _ (lo i (s - 1) h1 (by omega) (by omega)) (h.trans _ _ _ e1 (hi e j o3 (by omega) h4))
 ·rw [rt_z f (by omega) h2]
  by_cases hj : j < e
  ·rw [rt_y f h3 hj]
   rcases zy with e1 | e1 | e1
   ·omega
   ·omega
   ·exact h.trans _ _ _ (hi (i + m - s) (e - 1) (by omega) (by omega) (by omega)) (h.trans _ _ _ e1 (lo s (j - (e - m)) o1 (by omega) (by omega)))
  ·rw [rt_w f o2 o3 (by omega)]; exact hi _ _ (by omega) (by omega) h4

theorem Split.px {c : α → α → Int} {f : Nat → α} {a s m e b : Nat} (hS : Split c f a s m e b) : srt c (rt f s m e) a s := by
 obtain ⟨o1, o2, o3, o4, lo, hi, xw, zy⟩ := hS
 intro i j h1 h2 h3
 rw [rt_x f (by omega), rt_x f h3]; exact lo i j h1 h2 (by omega)
theorem Split.pz {c : α → α → Int} {f : Nat → α} {a s m e b : Nat} (hS : Split c f a s m e b) : srt c (rt f s m e) s (s + (e - m)) := by
 obtain ⟨o1, o2, o3, o4, lo, hi, xw, zy⟩ := hS
 intro i j h1 h2 h3
 rw [rt_z f h1 (by omega), rt_z f (by omega) h3]; exact hi _ _ (by omega) (by omega) (by omega)
theorem Split.py {c : α → α → Int} {f : Nat → α} {a s m e b : Nat} (hS : Split c f a s m e b) : srt c (rt f s m e) (s + (e - m)) e := by
 obtain ⟨o1, o2, o3, o4, lo, hi, xw, zy⟩ := hS
 intro i j h1 h2 h3
 rw [rt_y f h1 (by omega), rt_y f (by omega) h3]; exact lo _ _ (by omega) (by omega) (by omega)
theorem Split.pw {c : α → α → Int} {f : Nat → α} {a s m e b : Nat} (hS : Split c f a s m e b) : srt c (rt f s m e) e b := by
 obtain ⟨o1, o2, o3, o4, lo, hi, xw, zy⟩ := hS
 intro i j h1 h2 h3
 rw [rt_w f o2 o3 h1, rt_w f o2 o3 (by omega)]; exact hi _ _ (by omega) h2 h3

theorem Mv.rt {N a s m e b : Nat} (f : Nat → α) (h1 : a ≤ s) (h2 : s ≤ m) (h3 : m ≤ e) (h4 : e ≤ b) (hp : (tab N (Pu.rt f s m e)).Perm (tab N f)) : Mv N a b (Pu.rt f s m e) f where
 out k hk := by
  rcases hk with hk | hk
  ·exact rt_x f (by omega)
  ·exact rt_w f h2 h3 (by omega)
 frm k g1 g2 := by
  by_cases e1 : k < s
  ·exact ⟨k, g1, g2, rt_x f e1⟩
  ·by_cases e2 : k < s + (e - m)
   ·exact ⟨_, by omega, by omega, rt_z f (by omega) e2⟩
   ·by_cases e3 : k < e
    ·exact ⟨_, by omega, by omega, rt_y f (by omega) e3⟩
    ·exact ⟨k, g1, g2, rt_w f h2 h3 (by omega)⟩
 perm := hp

/-- halves that were sorted, each within itself -/
theorem cross_mv {c : α → α → Int} {N a m b : Nat} {f g : Nat → α} (h : ∀ i j, a ≤ i → i < m → m ≤ j → j < b → c (f i) (f j) ≤ 0)
  (hl : ∀ k, a ≤ k → k < m → ∃ k', a ≤ k' ∧ k' < m ∧ g k = f k') (hr : ∀ k, m ≤ k → k < b → ∃ k', m ≤ k' ∧ k' < b ∧ g k = f k') :
  ∀ i j, a ≤ i → i < m → m ≤ j → j < b → c (g i) (g j) ≤ 0 := by
 intro i j h1 h2 h3 h4
 obtain ⟨i', e1, e2, e3⟩ := hl i h1 h2
 obtain ⟨j', d1, d2, d3⟩ := hr j h3 h4
 rw [e3, d3]; exact h i' j' e1 e2 d1 d2
end
end Go.Pu
