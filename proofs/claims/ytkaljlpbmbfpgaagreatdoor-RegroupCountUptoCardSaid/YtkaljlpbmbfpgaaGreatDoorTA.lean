/- Told data: plain data that a function, or a loop, is told by; patterns of places, and of blocks. -/
import Derived.Test.YtkaljlpbmbfpgaaGreatDoorSO
set_option linter.unusedSimpArgs false
set_option linter.unusedVariables false
namespace Go.Pu

/-- plain data -/
inductive U where
 | i (n : Int)
 | b (b : Bool)
 | s (s : ByteArray)
 | l (es : List (List PV))
 | n (n : Nat)
 | c (cs : List PV)

def U.toI : U → Int | .i x => x | _ => 0
def U.toB : U → Bool | .b x => x | _ => false
def U.toS : U → ByteArray | .s x => x | _ => ⟨#[]⟩
def U.toL : U → List (List PV) | .l x => x | _ => []
def U.toN : U → Nat | .n x => x | _ => 0
def U.toC : U → List PV | .c x => x | _ => []

def uI (us : List U) (n : Nat) : Int := (us.getD n (.n 0)).toI
def uB (us : List U) (n : Nat) : Bool := (us.getD n (.n 0)).toB
def uS (us : List U) (n : Nat) : ByteArray := (us.getD n (.n 0)).toS
def uL (us : List U) (n : Nat) : List (List PV) := (us.getD n (.n 0)).toL
def uN (us : List U) (n : Nat) : Nat := (us.getD n (.n 0)).toN
def uC (us : List U) (n : Nat) : List PV := (us.getD n (.n 0)).toC

/-- an element's cells; an element -/
def cI (e : List PV) (n : Nat) : Int := (e.getD n .top).toI
def cB (e : List PV) (n : Nat) : Bool := (e.getD n .top).toB
def cS (e : List PV) (n : Nat) : ByteArray := (e.getD n .top).toS
def cL (e : List PV) (n : Nat) : List (List PV) := (e.getD n .top).toL
def el (es : List (List PV)) (i : Int) : List PV := es.getD i.toNat []
def w64 (n : Int) : Int := IntKind.i64.wrap n
def inR (i n : Int) : Bool := decide (0 ≤ i ∧ i < n)
def ln (es : List (List PV)) : Int := es.length

def pI (n : Int) : PV := .int .i64 n
def pB (n : Bool) : PV := .bool n
def pS (n : ByteArray) : PV := .str n

/-- a pattern of a value that holds no other -/
inductive Q1 where
 | top | nils | nilp | nilfn | nili | b | s
 | i (k : IntKind) | l (t : TypeId) | all (b : Nat) | own (b : Nat) | ptr (b off : Nat) | aptr (b off : Nat) | eptr (t : TypeId) (off : Nat) | mp (b : Nat)

inductive Q where
 | one (q : Q1) | agg (qs : List Q1) | fn (f : FuncId) (qs : List Q1) | iface (t : TypeId) (q : Q1)

inductive BQ where
 | dead | arr (t : TypeId) (live : Bool) | box (t : TypeId) (qs : List Q) | map (t : TypeId) (fz : Bool)

def Q1.w : Q1 → Nat
 | .b | .s | .i _ | .l _ | .aptr _ _ | .eptr _ _ => 1
 | .own _ => 2
 | _ => 0

def Q1.enc (us : List U) (n : Nat) : Q1 → PV
 | .top => .top | .nils => .nils | .nilp => .nilp | .nilfn => .nilfn | .nili => .nili
 | .b => .bool (uB us n) | .s => .str (uS us n) | .i k => .int k (uI us n) | .l t => .lst t (uL us n)
 | .all x => .all x | .own x => .own x (uN us n) (uN us (n + 1)) | .ptr x off => .ptr x off
 | .aptr x off => .aptr x (uN us n) off | .eptr t off => .eptr t (uC us n) off
 | .mp x => .mp x

def w1s : List Q1 → Nat
 | [] => 0
 | q :: qs => q.w + w1s qs

def enc1s (us : List U) : Nat → List Q1 → List PV
 | _, [] => []
 | n, q :: qs => q.enc us n :: enc1s us (n + q.w) qs

def Q.w : Q → Nat
 | .one q => q.w | .agg qs => w1s qs | .fn _ qs => w1s qs | .iface _ q => q.w

def Q.enc (us : List U) (n : Nat) : Q → PV
 | .one q => q.enc us n | .agg qs => .agg (enc1s us n qs) | .fn f qs => .fn f (enc1s us n qs) | .iface t q => .iface t (q.enc us n)

def ws : List Q → Nat
 | [] => 0
 | q :: qs => q.w + ws qs

def encs (us : List U) : Nat → List Q → List PV
 | _, [] => []
 | n, q :: qs => q.enc us n :: encs us (n + q.w) qs

def BQ.w : BQ → Nat
 | .dead => 0 | .arr _ _ => 1 | .box _ qs => ws qs | .map _ _ => 1

def msOf (fz : Bool) : MS := match fz with | true => .fz | false => .live

def BQ.enc (us : List U) (n : Nat) : BQ → Blk
 | .dead => .dead | .arr t l => .arr t (uL us n) l | .box t qs => .box t (encs us n qs) | .map t fz => .map t (uL us n) (msOf fz)

def encH (us : List U) : Nat → List BQ → Heap
 | _, [] => []
 | n, q :: qs => q.enc us n :: encH us (n + q.w) qs

/-! reading -/

def Q1.dec : Q1 → PV → Option (List U)
 | .top, .top => some [] | .nils, .nils => some [] | .nilp, .nilp => some [] | .nilfn, .nilfn => some [] | .nili, .nili => some []
 | .b, .bool x => some [.b x] | .s, .str x => some [.s x]
 | .i k, .int k' n => if k = k' then some [.i n] else none
 | .l t, .lst t' es => if t = t' then some [.l es] else none
 | .all x, .all x' => if x = x' then some [] else none
 | .own x, .own x' off n => if x = x' then some [.n off, .n n] else none
 | .ptr x o, .ptr x' o' => if x = x' ∧ o = o' then some [] else none
 | .aptr x o, .aptr x' m o' => if x = x' ∧ o = o' then some [.n m] else none
 | .eptr t o, .eptr t' cs o' => if t = t' ∧ o = o' then some [.c cs] else none
 | .mp x, .mp x' => if x = x' then some [] else none
 | _, _ => none

def dec1s : List Q1 → List PV → Option (List U)
 | [], [] => some []
 | q :: qs, v :: vs => (q.dec v).bind fun a => (dec1s qs vs).bind fun b => some (a ++ b)
 | _, _ => none

def Q.dec : Q → PV → Option (List U)
 | .one q, v => q.dec v
 | .agg qs, .agg vs => dec1s qs vs
 | .fn f qs, .fn f' vs => if f = f' then dec1s qs vs else none
 | .iface t q, .iface t' v => if t = t' then q.dec v else none
 | _, _ => none

def decs : List Q → List PV → Option (List U)
 | [], [] => some []
 | q :: qs, v :: vs => (q.dec v).bind fun a => (decs qs vs).bind fun b => some (a ++ b)
 | _, _ => none

def BQ.dec : BQ → Blk → Option (List U)
 | .dead, .dead => some []
 | .arr t l, .arr t' es l' => if t = t' ∧ l = l' then some [.l es] else none
 | .box t qs, .box t' vs => if t = t' then decs qs vs else none
 | .map t false, .map t' es .live => if t = t' then some [.l es] else none
 | .map t true, .map t' es .fz => if t = t' then some [.l es] else none
 | _, _ => none

def decH : List BQ → Heap → Option (List U)
 | [], [] => some []
 | q :: qs, v :: vs => (q.dec v).bind fun a => (decH qs vs).bind fun b => some (a ++ b)
 | _, _ => none

theorem getD_mid {pre us post : List U} {j : Nat} {d : U} (h : j < us.length) : (pre ++ us ++ post).getD (pre.length + j) d = us.getD j d := by
 simp only [List.getD, List.append_assoc]
 rw [List.getElem?_append_right (by omega), Nat.add_sub_cancel_left, List.getElem?_append_left h]

theorem getD_mid0 {pre us post : List U} {d : U} (h : 0 < us.length) : (pre ++ us ++ post).getD pre.length d = us.getD 0 d := by
 simpa using getD_mid (pre := pre) (us := us) (post := post) (j := 0) (d := d) h

theorem Q1.dec_enc {q : Q1} {v : PV} {us : List U} (h : q.dec v = some us) (pre post : List U) : q.enc (pre ++ us ++ post) pre.length = v ∧ us.length = q.w := by
 unfold Q1.dec at h
 split at h
 all_goals first
  | (cases h; exact ⟨rfl, rfl⟩)
  | (cases h; refine ⟨?_, rfl⟩; simp only [Q1.enc, uB, uS, uI, uL, uN, uC, getD_mid0 (List.length_pos_iff.2 (List.cons_ne_nil _ _))]; rfl)
  | (split at h
     ·rename_i e
      first
       | (obtain ⟨rfl, rfl⟩ := e; cases h; refine ⟨?_, rfl⟩; simp only [Q1.enc, uB, uS, uI, uL, uN, uC, getD_mid0 (List.length_pos_iff.2 (List.cons_ne_nil _ _))]; rfl)
       | (obtain ⟨rfl, rfl⟩ := e; cases h; exact ⟨rfl, rfl⟩)
       | (subst e; cases h; refine ⟨?_, rfl⟩; simp only [Q1.enc, uB, uS, uI, uL, uN, uC, getD_mid0 (List.length_pos_iff.2 (List.cons_ne_nil _ _)), getD_mid (show 1 < [_, _].length from Nat.lt_succ_self _)]; rfl)
       | (subst e; cases h; exact ⟨rfl, rfl⟩)
     ·cases h)
  | cases h

theorem app3 (pre a b post : List U) : pre ++ (a ++ b) ++ post = (pre ++ a) ++ b ++ post := by simp
theorem app3' (pre a b post : List U) : pre ++ (a ++ b) ++ post = pre ++ a ++ (b ++ post) := by simp

theorem dec1s_enc : ∀ {qs : List Q1} {vs : List PV} {us : List U}, dec1s qs vs = some us → ∀ pre post : List U, enc1s (pre ++ us ++ post) pre.length qs = vs ∧ us.length = w1s qs
 | [], [], us, h, pre, post => by cases h; exact ⟨rfl, rfl⟩
 | q :: qs, v :: vs, us, h, pre, post => by
  simp only [dec1s, Option.bind_eq_some_iff, Option.some.injEq] at h
  obtain ⟨a, h1, b, h2, rfl⟩ := h
  obtain ⟨e1, e2⟩ := Q1.dec_enc h1 pre (b ++ post)
  obtain ⟨f1, f2⟩ := dec1s_enc h2 (pre ++ a) post
  rw [← app3'] at e1
  rw [← app3, List.length_append, e2] at f1
  simp only [enc1s, w1s, List.length_append]
  exact ⟨by rw [e1, f1], by omega⟩
 | [], _ :: _, us, h, _, _ => by cases h
 | _ :: _, [], us, h, _, _ => by cases h

theorem Q.dec_enc {q : Q} {v : PV} {us : List U} (h : q.dec v = some us) (pre post : List U) : q.enc (pre ++ us ++ post) pre.length = v ∧ us.length = q.w := by
 unfold Q.dec at h
 split at h
 ·exact Q1.dec_enc h pre post
 ·obtain ⟨e1, e2⟩ := dec1s_enc h pre post
  exact ⟨by simp only [Q.enc]; rw [e1], e2⟩
 ·split at h
  ·rename_i e
   subst e
   obtain ⟨e1, e2⟩ := dec1s_enc h pre post
   exact ⟨by simp only [Q.enc]; rw [e1], e2⟩
  ·cases h
 ·split at h
  ·rename_i e
   subst e
   obtain ⟨e1, e2⟩ := Q1.dec_enc h pre post
   exact ⟨by simp only [Q.enc]; rw [e1], e2⟩
  ·cases h
 ·cases h

theorem decs_enc : ∀ {qs : List Q} {vs : List PV} {us : List U}, decs qs vs = some us → ∀ pre post : List U, encs (pre ++ us ++ post) pre.length qs = vs ∧ us.length = ws qs
 | [], [], us, h, pre, post => by cases h; exact ⟨rfl, rfl⟩
 | q :: qs, v :: vs, us, h, pre, post => by
  simp only [decs, Option.bind_eq_some_iff, Option.some.injEq] at h
  obtain ⟨a, h1, b, h2, rfl⟩ := h
  obtain ⟨e1, e2⟩ := Q.dec_enc h1 pre (b ++ post)
  obtain ⟨f1, f2⟩ := decs_enc h2 (pre ++ a) post
  rw [← app3'] at e1
  rw [← app3, List.length_append, e2] at f1
  simp only [encs, ws, List.length_append]
  exact ⟨by rw [e1, f1], by omega⟩
 | [], _ :: _, us, h, _, _ => by cases h
 | _ :: _, [], us, h, _, _ => by cases h

theorem BQ.dec_enc {q : BQ} {v : Blk} {us : List U} (h : q.dec v = some us) (pre post : List U) : q.enc (pre ++ us ++ post) pre.length = v ∧ us.length = q.w := by
 unfold BQ.dec at h
 split at h
 ·cases h; exact ⟨rfl, rfl⟩
 ·split at h
  ·rename_i e
   obtain ⟨rfl, rfl⟩ := e
   cases h
   refine ⟨?_, rfl⟩
   simp only [BQ.enc, uL, getD_mid0 (List.length_pos_iff.2 (List.cons_ne_nil _ _))]; rfl
  ·cases h
 ·split at h
  ·rename_i e
   subst e
   obtain ⟨e1, e2⟩ := decs_enc h pre post
   exact ⟨by simp only [BQ.enc]; rw [e1], e2⟩
  ·cases h
 ·split at h
  ·rename_i e
   subst e
   cases h
   refine ⟨?_, rfl⟩
   simp only [BQ.enc, uL, getD_mid0 (List.length_pos_iff.2 (List.cons_ne_nil _ _))]; rfl
  ·cases h
 ·split at h
  ·rename_i e
   subst e
   cases h
   refine ⟨?_, rfl⟩
   simp only [BQ.enc, uL, getD_mid0 (List.length_pos_iff.2 (List.cons_ne_nil _ _))]; rfl
  ·cases h
 ·cases h

theorem decH_enc : ∀ {qs : List BQ} {vs : Heap} {us : List U}, decH qs vs = some us → ∀ pre post : List U, encH (pre ++ us ++ post) pre.length qs = vs
 | [], [], us, h, pre, post => by cases h; rfl
 | q :: qs, v :: vs, us, h, pre, post => by
  simp only [decH, Option.bind_eq_some_iff, Option.some.injEq] at h
  obtain ⟨a, h1, b, h2, rfl⟩ := h
  obtain ⟨e1, e2⟩ := BQ.dec_enc h1 pre (b ++ post)
  have f1 := decH_enc h2 (pre ++ a) post
  rw [← app3'] at e1
  rw [← app3, List.length_append, e2] at f1
  simp only [encH]
  rw [e1, f1]
 | [], _ :: _, us, h, _, _ => by cases h
 | _ :: _, [], us, h, _, _ => by cases h

/-! what is told -/

inductive Rt where
 | fail
 | next (us : List U)
 | stop (j : Nat) (us : List U)
 | test (b : Bool) (x y : Rt)

inductive Rv where
 | next (us : List U)
 | stop (j : Nat) (us : List U)

def Rt.val : Rt → Option Rv
 | .fail => none
 | .next us => some (.next us)
 | .stop j us => some (.stop j us)
 | .test b x y => if b = true then x.val else y.val

def Rt.go {R : Type} (B : Bool → Option R → Option R → Option R) (kn : List U → Option R) (ks : Nat → List U → Option R) : Rt → Option R
 | .fail => none
 | .next us => kn us
 | .stop j us => ks j us
 | .test b x y => B b (x.go B kn ks) (y.go B kn ks)

theorem Rt.go_val {R : Type} (kn : List U → Option R) (ks : Nat → List U → Option R) : ∀ t : Rt, t.go br kn ks = match t.val with | none => none | some (.next us) => kn us | some (.stop j us) => ks j us
 | .fail => rfl
 | .next us => rfl
 | .stop j us => rfl
 | .test b x y => by
  simp only [Rt.go, Rt.val, br_if, Rt.go_val kn ks x, Rt.go_val kn ks y]
  split <;> rfl

/-- what a function comes to -/
abbrev Rs := Option (Nat × List U)
def Rt.res (t : Rt) : Rs := match t.val with | some (.stop j us) => some (j, us) | _ => none
def ok (r : Rs) (j : Nat) : Bool := match r with | some (j', _) => j == j' | none => false
def out (r : Rs) (j : Nat) : List U := match r with | some (_, us) => us | none => []

theorem ok_some {r : Rs} {j : Nat} (h : ok r j = true) : r = some (j, out r j) := by
 unfold ok at h
 split at h
 ·have := eq_of_beq h; subst this; rfl
 ·cases h

/-- rounds -/
def It (rd : List U → Rt) : Nat → List U → Rs
 | 0, _ => none
 | n + 1, us => match (rd us).val with
  | none => none
  | some (.next us') => It rd n us'
  | some (.stop j us') => some (j, us')

theorem It_mono {rd : List U → Rt} : ∀ {n m : Nat} {us : List U} {o : Nat × List U}, n ≤ m → It rd n us = some o → It rd m us = some o
 | 0, _, _, _, _, h => by cases h
 | n + 1, 0, _, _, hm, _ => by omega
 | n + 1, m + 1, us, o, hm, h => by
  simp only [It] at h ⊢
  split at h
  ·cases h
  ·exact It_mono (by omega) h
  ·exact h

open Classical in
/-- what a loop comes to -/
noncomputable def lres (rd : List U → Rt) (us : List U) : Rs := if h : ∃ o n, It rd n us = some o then some (Classical.choose h) else none

theorem lres_of {rd : List U → Rt} {us : List U} {n : Nat} {o : Nat × List U} (h : It rd n us = some o) : lres rd us = some o := by
 have hx : ∃ o n, It rd n us = some o := ⟨o, n, h⟩
 unfold lres
 rw [dif_pos hx]
 obtain ⟨m, hm⟩ := Classical.choose_spec hx
 have h1 := It_mono (Nat.le_max_left n m) h
 have h2 := It_mono (Nat.le_max_right n m) hm
 rw [h1] at h2
 exact h2.symm

theorem lres_some {rd : List U → Rt} {us : List U} {o : Nat × List U} (h : lres rd us = some o) : ∃ n, It rd n us = some o := by
 unfold lres at h
 split at h
 ·rename_i hx
  cases h
  exact Classical.choose_spec hx
 ·cases h

theorem lres_stop {rd : List U → Rt} {us : List U} {j : Nat} {us' : List U} (h : (rd us).val = some (.stop j us')) : lres rd us = some (j, us') :=
 lres_of (n := 1) (by simp only [It, h])

theorem lres_next {rd : List U → Rt} {us us' : List U} (h : (rd us).val = some (.next us')) : lres rd us = lres rd us' := by
 cases hr : lres rd us' with
 | none =>
  cases hl : lres rd us with
  | none => rfl
  | some o =>
   obtain ⟨n, hn⟩ := lres_some hl
   cases n with
   | zero => cases hn
   | succ n =>
    simp only [It, h] at hn
    rw [lres_of hn] at hr
    cases hr
 | some o =>
  obtain ⟨n, hn⟩ := lres_some hr
  exact lres_of (n := n + 1) (by simp only [It, h]; exact hn)

end Go.Pu
