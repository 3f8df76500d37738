/- The pure machine, third part: what its data say of the model's memory. -/
import Derived.Test.YtkaljlpbmbfpgaaGreatDoorRB
import Derived.Test.YtkaljlpbmbfpgaaGreatDoorQA
namespace Go.Pu

structure Env where
 w : World
 h : Heap
 ρ : Nat → Option (Nat × Nat)
 im : Nat → Prop

/-- a slice value over a block of one's own -/
def SlcAt (P : Program) (E : Env) (b off n : Nat) (v : Value) : Prop :=
 match E.h[b]? with
 | some (.arr t es _) => off + n ≤ es.length ∧ ∃ sz A cap, elSize P t = some sz ∧ v = .slice A n cap ∧ n ≤ cap ∧
   (cap = 0 ∨ ∃ blk o c T, E.ρ b = some (blk, o) ∧ A = some ⟨blk, o + off * sz, none⟩ ∧ E.w.heap[blk]? = some (.cells c T (0, 0)) ∧ o + (off + cap) * sz ≤ c.size)
 | some .dead | some (.box _ _) | some (.map _ _ _) => True
 | _ => False

def PtrAt (E : Env) (b off : Nat) (v : Value) : Prop :=
 match E.h[b]? with
 | some (.box _ _) => ∃ blk o, E.ρ b = some (blk, o) ∧ v = .pointer (some ⟨blk, o + off, none⟩)
 | some .dead | some (.arr _ _ _) | some (.map _ _ _) => True
 | _ => False

def AptrAt (P : Program) (E : Env) (b i off : Nat) (v : Value) : Prop :=
 match E.h[b]? with
 | some (.arr t es _) => i < es.length ∧ ∃ sz blk o, elSize P t = some sz ∧ E.ρ b = some (blk, o) ∧ v = .pointer (some ⟨blk, o + i * sz + off, none⟩)
 | some .dead | some (.box _ _) | some (.map _ _ _) => True
 | _ => False

def MapPtr (E : Env) (b : Nat) (v : Value) : Prop :=
 match E.h[b]? with
 | some (.map _ _ _) => ∃ ob, E.ρ b = some (ob, 0) ∧ v = .map (some ob)
 | some .dead | some (.arr _ _ _) | some (.box _ _) => True
 | _ => False

inductive Rep (P : Program) (E : Env) : PV → Value → Prop
 | top (v : Value) : Rep P E .top v
 | bool (b : Bool) : Rep P E (.bool b) (.bool b)
 | int (k : IntKind) (n : Int) : Rep P E (.int k n) (.int k n)
 | str (s : ByteArray) : Rep P E (.str s) (.string s)
 | agg (cs : List PV) (vs : Array Value) (hl : cs.length = vs.size) (h : ∀ i, i < cs.length → Rep P E (cs.getD i .top) (vs.getD i undef)) : Rep P E (.agg cs) (.agg vs)
 | tuple (cs : List PV) (vs : Array Value) (hl : cs.length = vs.size) (h : ∀ i, i < cs.length → Rep P E (cs.getD i .top) (vs.getD i undef)) : Rep P E (.tuple cs) (.tuple vs)
 | nils : Rep P E .nils (.slice none 0 0)
 | lst0 (t : TypeId) (A : Option Addr) (cap : Nat) (hA : A = none → cap = 0) : Rep P E (.lst t []) (.slice A 0 cap)
 | lst (t : TypeId) (es : List (List PV)) (blk o cap sz : Nat) (c : Array Value) (T : TypeId) (fz : Nat × Nat)
   (hs : elSize P t = some sz) (hb : E.w.heap[blk]? = some (.cells c T fz)) (him : E.im blk) (hcap : es.length ≤ cap) (hlen : o + es.length * sz ≤ c.size)
   (hk : ∀ i, i < es.length → cellsOK (kds P t) (es.getD i []) = true)
   (hr : ∀ i j, i < es.length → j < sz → Rep P E ((es.getD i []).getD j .top) (c.getD (o + i * sz + j) undef)) :
   Rep P E (.lst t es) (.slice (some ⟨blk, o, none⟩) es.length cap)
 | zcap (t : TypeId) (A : Option Addr) : Rep P E (.new t []) (.slice A 0 0)
 | zany (t : TypeId) (x : List PV) (xs : List (List PV)) (A : Option Addr) (cap : Nat) (hA : A ≠ none) : Rep P E (.new t (x :: xs)) (.slice A 0 cap)
 | all (b n : Nat) (v : Value) (hn : ∀ t es l, E.h[b]? = some (.arr t es l) → n = es.length) (h : SlcAt P E b 0 n v) : Rep P E (.all b) v
 | own (b off n : Nat) (v : Value) (h : SlcAt P E b off n v) : Rep P E (.own b off n) v
 | nilp : Rep P E .nilp (.pointer none)
 | ptr (b off : Nat) (v : Value) (h : PtrAt E b off v) : Rep P E (.ptr b off) v
 | aptr (b i off : Nat) (v : Value) (h : AptrAt P E b i off v) : Rep P E (.aptr b i off) v
 | eptr (t : TypeId) (cs : List PV) (off blk o : Nat) (c : Array Value) (T : TypeId) (fz : Nat × Nat)
   (hb : E.w.heap[blk]? = some (.cells c T fz)) (him : E.im blk) (hlen : o + cs.length ≤ c.size) (hk : cellsOK (kds P t) cs = true)
   (hr : ∀ j, j < cs.length → Rep P E (cs.getD j .top) (c.getD (o + j) undef)) :
   Rep P E (.eptr t cs off) (.pointer (some ⟨blk, o + off, none⟩))
 | fn (f : FuncId) (cs : List PV) (vs : Array Value) (hl : cs.length = vs.size) (h : ∀ i, i < cs.length → Rep P E (cs.getD i .top) (vs.getD i undef)) : Rep P E (.fn f cs) (.func (.func f) #[] vs)
 | nilfn : Rep P E .nilfn .nilFunc
 | iface (t : TypeId) (x : PV) (v : Value) (h : Rep P E x v) : Rep P E (.iface t x) (.iface t v)
 | nili : Rep P E .nili .nilIface
 | mp (b : Nat) (v : Value) (h : MapPtr E b v) : Rep P E (.mp b) v

/-- the array behind a slice -/
def ArrOf (v : Value) (blk : Nat) : Prop := ∃ o n cap, v = .slice (some ⟨blk, o, none⟩) n cap ∧ cap ≠ 0

/-- is an entry the map's own? -/
def MS.has (st : MS) (e : List PV) : Prop :=
 match st with
 | .live => True
 | .out k => keyM e ≠ k
 | .fz => False

/-- the concrete block is a map's that is written, or an array behind one of its slices -/
def MapHas (E : Env) (b blk : Nat) : Prop :=
 ∃ t es st ob eo clock, E.h[b]? = some (.map t es st) ∧ st ≠ .fz ∧ E.ρ b = some (ob, 0) ∧ E.w.heap[ob]? = some (.map eo clock) ∧
  (blk = ob ∨ ∃ i, i < es.length ∧ st.has (es.getD i []) ∧ ArrOf (eo.getD i default).val blk)

/-- a block of one's own that is written, and its concrete block -/
def OwnB (E : Env) (b blk : Nat) : Prop :=
 (∃ o, E.ρ b = some (blk, o) ∧ ((∃ t es, E.h[b]? = some (.arr t es true)) ∨ ∃ t cs, E.h[b]? = some (.box t cs))) ∨ MapHas E b blk

/-- the concrete block is written by those whose it is -/
def Owned (E : Env) (blk : Nat) : Prop := ∃ b, OwnB E b blk

/-- a slice in a map's entry -/
def SlcIn (P : Program) (E : Env) (st : MS) (u : TypeId) (rows : List (List PV)) (v : Value) : Prop :=
 ∃ sz A cap, elSize P u = some sz ∧ v = .slice A rows.length cap ∧ rows.length ≤ cap ∧ (∀ i, i < rows.length → cellsOK (kds P u) (rows.getD i []) = true) ∧
  ((cap = 0 ∧ (A = none → cap = 0)) ∨ ∃ blk o c T, A = some ⟨blk, o, none⟩ ∧ E.w.heap[blk]? = some (.cells c T (0, 0)) ∧ o + cap * sz ≤ c.size ∧
   (∀ i j, i < rows.length → j < sz → Rep P E ((rows.getD i []).getD j .top) (c.getD (o + i * sz + j) undef)) ∧ (st ≠ .fz → ¬ E.im blk) ∧ (st = .fz → E.im blk))

/-- an entry -/
def EntIn (P : Program) (E : Env) (t : TypeId) (st : MS) (e : List PV) (en : MapEntry) : Prop :=
 ∃ k x, e = [.str k, x] ∧ en.key = .string k ∧
  ((st.has e ∨ st = .fz) → match kdOf P t with
   | .sl u => ∃ rows, x = .lst u rows ∧ SlcIn P E st u rows en.val
   | _ => ∃ b, x = .bool b ∧ en.val = .bool b)

/-- what a block of one's own holds -/
def BlkAt (P : Program) (E : Env) (b : Nat) : Prop :=
 match E.h[b]? with
 | some (.arr t es l) =>
  (∀ i, i < es.length → cellsOK (kds P t) (es.getD i []) = true) ∧
  match E.ρ b with
  | none => es = []
  | some (blk, o) => ∃ sz c T, elSize P t = some sz ∧ E.w.heap[blk]? = some (.cells c T (0, 0)) ∧ o + es.length * sz ≤ c.size ∧
    (∀ i j, i < es.length → j < sz → Rep P E ((es.getD i []).getD j .top) (c.getD (o + i * sz + j) undef)) ∧ (l = true → ¬ E.im blk) ∧ (l = false → E.im blk)
 | some (.box _ cs) =>
  ∃ blk o c T, E.ρ b = some (blk, o) ∧ E.w.heap[blk]? = some (.cells c T (0, 0)) ∧ o + cs.length ≤ c.size ∧
   (∀ j, j < cs.length → Rep P E (cs.getD j .top) (c.getD (o + j) undef)) ∧ ¬ E.im blk
 | some (.map t es st) =>
  ∃ ob eo clock, E.ρ b = some (ob, 0) ∧ E.w.heap[ob]? = some (.map eo clock) ∧ eo.size = es.length ∧ valOK P t = true ∧
   (∀ i, i < es.length → EntIn P E t st (es.getD i []) (eo.getD i default)) ∧
   (∀ i j, i < es.length → j < es.length → keyM (es.getD i []) = keyM (es.getD j []) → i = j) ∧
   (∀ i j blk, i < es.length → j < es.length → st.has (es.getD i []) → st.has (es.getD j []) → ArrOf (eo.getD i default).val blk → ArrOf (eo.getD j default).val blk → i = j) ∧
   (st ≠ .fz → ¬ E.im ob) ∧ (st = .fz → E.im ob)
 | _ => True

/-- the seat's tables lie where nobody writes -/
def Tab (w : World) (im : Nat → Prop) : Prop := ∀ x ∈ seatTabs, im x.1 ∧ ∃ c T fz, w.heap[x.1]? = some (.cells c T fz) ∧ x.2 c

structure Inv (P : Program) (E : Env) : Prop where
 blk : ∀ b, BlkAt P E b
 own : ∀ b b' blk, OwnB E b blk → OwnB E b' blk → b = b'
 imlt : ∀ blk, E.im blk → blk < E.w.heap.size
 tab : Tab E.w E.im

def Compat : Option Blk → Option Blk → Prop
 | some .dead, some .dead => True
 | some .res, some _ => True
 | some (.arr _ _ _), some .dead => True
 | some (.box _ _), some .dead => True
 | some (.map _ _ _), some .dead => True
 | some (.arr t es l), some (.arr t' es' l') => t = t' ∧ es'.length = es.length ∧ (l' = true → l = true)
 | some (.box t cs), some (.box t' cs') => t = t' ∧ cs'.length = cs.length
 | some (.map t _ st), some (.map t' _ st') => t = t' ∧ (st = .fz → st' = .fz)
 | none, _ => True
 | _, _ => False

structure Trans (E E' : Env) : Prop where
 compat : ∀ b : Nat, Compat E.h[b]? E'.h[b]?
 rho : ∀ b : Nat, b < E.h.length → E.h[b]? ≠ some .res → E'.h[b]? ≠ some .dead → E'.ρ b = E.ρ b
 im : ∀ blk, E.im blk → E'.im blk
 size : E.w.heap.size ≤ E'.w.heap.size
 os : E'.w.os = E.w.os
 tape : E'.w.tape = E.w.tape
 output : E'.w.output = E.w.output
 frame : ∀ blk, blk < E.w.heap.size → ¬ Owned E blk → E'.w.heap[blk]? = E.w.heap[blk]?
 shape : ∀ (blk : Nat) (c : Array Value) (T : TypeId) (fz : Nat × Nat), E.w.heap[blk]? = some (.cells c T fz) → ∃ c' : Array Value, E'.w.heap[blk]? = some (.cells c' T fz) ∧ c'.size = c.size
 owned : ∀ blk, blk < E.w.heap.size → Owned E' blk → Owned E blk
 imold : ∀ blk, blk < E.w.heap.size → E'.im blk → E.im blk ∨ Owned E blk

theorem Compat.refl : ∀ x : Option Blk, Compat x x
 | none => trivial
 | some .dead => trivial
 | some .res => trivial
 | some (.arr _ _ _) => ⟨rfl, rfl, id⟩
 | some (.box _ _) => ⟨rfl, rfl⟩
 | some (.map _ _ _) => ⟨rfl, id⟩

theorem Compat.trans {x y z : Option Blk} (h : Compat x y) (k : Compat y z) : Compat x z := by
 cases x with
 | none => trivial
 | some a => cases y with
  | none => cases a <;> exact h.elim
  | some b => cases z with
   | none => cases b <;> exact k.elim
   | some c =>
    cases a <;> cases b <;> cases c <;> first
     | trivial
     | exact h.elim
     | exact k.elim
     | exact ⟨h.1.trans k.1, k.2.1.trans h.2.1, fun z => h.2.2 (k.2.2 z)⟩
     | exact ⟨h.1.trans k.1, k.2.trans h.2⟩
     | exact ⟨h.1.trans k.1, fun z => k.2 (h.2 z)⟩

theorem Trans.refl (E : Env) : Trans E E where
 compat _ := Compat.refl _
 rho _ _ _ _ := rfl
 im _ h := h
 size := Nat.le_refl _
 os := rfl
 tape := rfl
 output := rfl
 frame _ _ _ := rfl
 shape _ c _ _ h := ⟨c, h, rfl⟩
 owned _ _ h := h
 imold _ _ h := .inl h

theorem Compat.some_left {x y : Option Blk} (h : Compat x y) (hx : x ≠ none) : y ≠ none := by
 cases x with
 | none => exact absurd rfl hx
 | some b => cases y with
  | none => cases b <;> exact h.elim
  | some _ => simp

theorem Trans.len {E E' : Env} (h : Trans E E') : E.h.length ≤ E'.h.length := by
 rcases Nat.lt_or_ge E'.h.length E.h.length with hlt | hge
 ·have hc := h.compat E'.h.length
  have h1 : E.h[E'.h.length]? ≠ none := by simp [hlt]
  exact absurd (by simp) (hc.some_left h1)
 ·exact hge

theorem Compat.dead {y : Option Blk} (h : Compat (some .dead) y) : y = some .dead := by
 cases y with
 | none => exact h.elim
 | some b => cases b <;> first | rfl | exact h.elim

theorem Compat.res {x : Option Blk} (h : Compat x (some .res)) : x = none ∨ x = some .res := by
 cases x with
 | none => exact .inl rfl
 | some b => cases b <;> first | exact .inr rfl | exact h.elim

theorem Trans.trans {E E' E'' : Env} (h : Trans E E') (k : Trans E' E'') : Trans E E'' where
 compat b := (h.compat b).trans (k.compat b)
 rho b hb hn hd := by
  have h1 : E'.h[b]? ≠ some .dead := fun e => hd (by have := k.compat b; rw [e] at this; exact this.dead)
  have h2 : E'.h[b]? ≠ some .res := fun e => by
   have := h.compat b
   rw [e] at this
   rcases this.res with hh | hh
   ·simp [List.getElem?_eq_getElem hb] at hh
   ·exact hn hh
  rw [k.rho b (Nat.lt_of_lt_of_le hb h.len) h2 hd, h.rho b hb hn h1]
 im blk hi := k.im blk (h.im blk hi)
 size := Nat.le_trans h.size k.size
 os := k.os.trans h.os
 tape := k.tape.trans h.tape
 output := k.output.trans h.output
 frame blk hb ho := by
  rw [k.frame blk (Nat.lt_of_lt_of_le hb h.size) (fun x => ho (h.owned blk hb x)), h.frame blk hb ho]
 shape blk c T fz hc := by
  obtain ⟨c1, h1, e1⟩ := h.shape blk c T fz hc
  obtain ⟨c2, h2, e2⟩ := k.shape blk c1 T fz h1
  exact ⟨c2, h2, e2.trans e1⟩
 owned blk hb ho := h.owned blk hb (k.owned blk (Nat.lt_of_lt_of_le hb h.size) ho)
 imold blk hb hm := by
  rcases k.imold blk (Nat.lt_of_lt_of_le hb h.size) hm with h1 | h1
  ·exact h.imold blk hb h1
  ·exact .inr (h.owned blk hb h1)

section
variable {P : Program} {E E' : Env}

theorem EntIn.arr {t : TypeId} {st : MS} {e : List PV} {en : MapEntry} {blk : Nat} (h : EntIn P E t st e en) (hs : st.has e ∨ st = .fz) (ha : ArrOf en.val blk) :
  ∃ c T, E.w.heap[blk]? = some (.cells c T (0, 0)) ∧ (st ≠ .fz → ¬ E.im blk) ∧ (st = .fz → E.im blk) := by
 obtain ⟨k, x, e1, e2, e3⟩ := h
 obtain ⟨o, n, cap, hv, hne⟩ := ha
 have h3 := e3 hs
 split at h3
 ·obtain ⟨rows, _, sz, A, cap', s1, s2, s3, s4, s5⟩ := h3
  rw [hv] at s2
  cases s2
  rcases s5 with ⟨h0, _⟩ | ⟨blk', o', c, T, q1, q2, q3, q4, q5, q6⟩
  ·exact absurd h0 hne
  ·cases q1
   exact ⟨c, T, q2, q5, q6⟩
 ·obtain ⟨b, _, h4⟩ := h3
  rw [hv] at h4
  cases h4

theorem Inv.not_mapHas (hI : Inv P E) {blk : Nat} (h : E.im blk) {b : Nat} : ¬ MapHas E b blk := by
 rintro ⟨t, es, st, ob, eo, clock, hb, hst, hρ, hw, hc⟩
 have hB := hI.blk b
 unfold BlkAt at hB
 rw [hb] at hB
 simp only at hB
 obtain ⟨ob', eo', clock', r1, r2, r3, r4, r5, r6, r7, r8, r9⟩ := hB
 rw [hρ] at r1
 cases r1
 rw [hw] at r2
 cases r2
 rcases hc with rfl | ⟨i, hi, hhas, harr⟩
 ·exact r8 hst h
 ·obtain ⟨c, T, _, q2, _⟩ := (r5 i hi).arr (.inl hhas) harr
  exact q2 hst h

theorem Inv.inj (hI : Inv P E) (b b' blk o o' : Nat) (h1 : E.ρ b = some (blk, o)) (h2 : E.ρ b' = some (blk, o'))
  (k1 : (∃ t es, E.h[b]? = some (.arr t es true)) ∨ ∃ t cs, E.h[b]? = some (.box t cs)) (k2 : (∃ t es, E.h[b']? = some (.arr t es true)) ∨ ∃ t cs, E.h[b']? = some (.box t cs)) : b = b' :=
 hI.own b b' blk (.inl ⟨o, h1, k1⟩) (.inl ⟨o', h2, k2⟩)

/-- what is owned stays owned by the same, where nothing of it is changed -/
theorem OwnB.keep {b blk : Nat} (hh : E'.h[b]? = E.h[b]?) (hr : E'.ρ b = E.ρ b) (hw : ∀ ob, E.ρ b = some (ob, 0) → (∃ t es st, E.h[b]? = some (.map t es st)) → E'.w.heap[ob]? = E.w.heap[ob]?) (h : OwnB E' b blk) : OwnB E b blk := by
 rcases h with ⟨o, h1, h2⟩ | ⟨t, es, st, ob, eo, clock, h1, h2, h3, h4, h5⟩
 ·rw [hh] at h2
  rw [hr] at h1
  exact .inl ⟨o, h1, h2⟩
 ·rw [hh] at h1
  rw [hr] at h3
  rw [hw ob h3 ⟨t, es, st, h1⟩] at h4
  exact .inr ⟨t, es, st, ob, eo, clock, h1, h2, h3, h4, h5⟩

theorem Inv.not_owned (hI : Inv P E) {blk : Nat} (h : E.im blk) : ¬ Owned E blk := by
 rintro ⟨b, (⟨o, hr, hh⟩ | hm)⟩
 case inr => exact hI.not_mapHas h hm
 have hb := hI.blk b
 unfold BlkAt at hb
 rcases hh with ⟨t, es, he⟩ | ⟨t, cs, he⟩
 ·rw [he] at hb
  simp only [hr] at hb
  obtain ⟨_, sz, c, T, _, _, _, _, h1, _⟩ := hb
  exact h1 trivial h
 ·rw [he] at hb
  simp only at hb
  obtain ⟨blk', o', c, T, h0, _, _, _, h1⟩ := hb
  rw [hr] at h0
  obtain ⟨rfl, rfl⟩ := Prod.mk.inj (Option.some.inj h0)
  exact h1 h

theorem Trans.im_same (hI : Inv P E) (h : Trans E E') {blk : Nat} (hi : E.im blk) : E'.w.heap[blk]? = E.w.heap[blk]? :=
 h.frame blk (hI.imlt blk hi) (hI.not_owned hi)

theorem Inv.tabT (hI : Inv P E) (h : Trans E E') : Tab E'.w E'.im := fun x hx => by
 obtain ⟨h1, c, T, fz, h2, h3⟩ := hI.tab x hx
 exact ⟨h.im _ h1, c, T, fz, by rw [h.im_same hI h1]; exact h2, h3⟩

theorem lt_of_some {h : Heap} {b : Nat} {x : Blk} (e : h[b]? = some x) : b < h.length := by
 rcases Nat.lt_or_ge b h.length with hlt | hge
 ·exact hlt
 ·simp [List.getElem?_eq_none hge] at e

theorem SlcAt.mono (h : Trans E E') {b off n : Nat} {v : Value} (hb : SlcAt P E b off n v) : SlcAt P E' b off n v := by
 unfold SlcAt at hb ⊢
 have hc := h.compat b
 cases hx : E.h[b]? with
 | none => rw [hx] at hb; exact hb.elim
 | some x =>
  have hr := h.rho b (lt_of_some hx)
  rw [hx] at hb hc hr
  cases hy : E'.h[b]? with
  | none => rw [hy] at hc; cases x <;> exact hc.elim
  | some y =>
   rw [hy] at hc hr
   cases x <;> cases y <;> first | trivial | exact hc.elim | exact hb.elim | skip
   rename_i t es l t' es' l'
   obtain ⟨rfl, he, _⟩ := hc
   obtain ⟨h0, sz, A, cap, hs, hv, hn, hh⟩ := hb
   refine ⟨by rw [he]; exact h0, sz, A, cap, hs, hv, hn, ?_⟩
   rcases hh with hh | ⟨blk, o, c, T, h1, h2, h3, h4⟩
   ·exact .inl hh
   ·obtain ⟨c', h5, h6⟩ := h.shape blk c T _ h3
    exact .inr ⟨blk, o, c', T, by rw [hr (by simp) (by simp), h1], h2, h5, by omega⟩

theorem PtrAt.mono (h : Trans E E') {b off : Nat} {v : Value} (hb : PtrAt E b off v) : PtrAt E' b off v := by
 unfold PtrAt at hb ⊢
 have hc := h.compat b
 cases hx : E.h[b]? with
 | none => rw [hx] at hb; exact hb.elim
 | some x =>
  have hr := h.rho b (lt_of_some hx)
  rw [hx] at hb hc hr
  cases hy : E'.h[b]? with
  | none => rw [hy] at hc; cases x <;> exact hc.elim
  | some y =>
   rw [hy] at hc hr
   cases x <;> cases y <;> first | trivial | exact hc.elim | exact hb.elim | skip
   obtain ⟨blk, o, h1, h2⟩ := hb
   exact ⟨blk, o, by rw [hr (by simp) (by simp), h1], h2⟩

theorem MapPtr.mono (h : Trans E E') {b : Nat} {v : Value} (hb : MapPtr E b v) : MapPtr E' b v := by
 unfold MapPtr at hb ⊢
 have hc := h.compat b
 cases hx : E.h[b]? with
 | none => rw [hx] at hb; exact hb.elim
 | some x =>
  have hr := h.rho b (lt_of_some hx)
  rw [hx] at hb hc hr
  cases hy : E'.h[b]? with
  | none => rw [hy] at hc; cases x <;> exact hc.elim
  | some y =>
   rw [hy] at hc hr
   cases x <;> cases y <;> first | trivial | exact hc.elim | exact hb.elim | skip
   obtain ⟨ob, h1, h2⟩ := hb
   exact ⟨ob, by rw [hr (by simp) (by simp), h1], h2⟩

theorem AptrAt.mono (h : Trans E E') {b i off : Nat} {v : Value} (hb : AptrAt P E b i off v) : AptrAt P E' b i off v := by
 unfold AptrAt at hb ⊢
 have hc := h.compat b
 cases hx : E.h[b]? with
 | none => rw [hx] at hb; exact hb.elim
 | some x =>
  have hr := h.rho b (lt_of_some hx)
  rw [hx] at hb hc hr
  cases hy : E'.h[b]? with
  | none => rw [hy] at hc; cases x <;> exact hc.elim
  | some y =>
   rw [hy] at hc hr
   cases x <;> cases y <;> first | trivial | exact hc.elim | exact hb.elim | skip
   obtain ⟨rfl, he, _⟩ := hc
   obtain ⟨h0, sz, blk, o, hs, h1, h2⟩ := hb
   exact ⟨by rw [he]; exact h0, sz, blk, o, hs, by rw [hr (by simp) (by simp), h1], h2⟩

/-- what is told of a value holds on -/
theorem Rep.mono (hI : Inv P E) (h : Trans E E') {x : PV} {v : Value} (hr : Rep P E x v) : Rep P E' x v := by
 induction hr with
 | top v => exact .top v
 | bool b => exact .bool b
 | int k n => exact .int k n
 | str s => exact .str s
 | agg cs vs hl _ ih => exact .agg cs vs hl ih
 | tuple cs vs hl _ ih => exact .tuple cs vs hl ih
 | nils => exact .nils
 | lst0 t A cap hA => exact .lst0 t A cap hA
 | lst t es blk o cap sz c T fz hs hb him hcap hlen hk _ ih =>
  exact .lst t es blk o cap sz c T fz hs (by rw [h.im_same hI him]; exact hb) (h.im blk him) hcap hlen hk ih
 | all b n v hn hh =>
  refine .all b n v ?_ (hh.mono h)
  intro t es l he
  have hc := h.compat b
  rw [he] at hc
  cases hx : E.h[b]? with
  | none => unfold SlcAt at hh; rw [hx] at hh; exact hh.elim
  | some x =>
   rw [hx] at hc
   cases x with
   | arr t' es' l' => rw [hn t' es' l' hx, hc.2.1]
   | dead => exact hc.elim
   | box => exact hc.elim
   | map => exact hc.elim
   | res => unfold SlcAt at hh; rw [hx] at hh; exact hh.elim
 | own b off n v hh => exact .own b off n v (hh.mono h)
 | nilp => exact .nilp
 | ptr b off v hh => exact .ptr b off v (hh.mono h)
 | aptr b i off v hh => exact .aptr b i off v (hh.mono h)
 | eptr t cs off blk o c T fz hb him hlen hk _ ih =>
  exact .eptr t cs off blk o c T fz (by rw [h.im_same hI him]; exact hb) (h.im blk him) hlen hk ih
 | fn f cs vs hl _ ih => exact .fn f cs vs hl ih
 | nilfn => exact .nilfn
 | iface t x v _ ih => exact .iface t x v ih
 | zcap t A => exact .zcap t A
 | zany t x xs A cap hA => exact .zany t x xs A cap hA
 | nili => exact .nili
 | mp b v hh => exact .mp b v (hh.mono h)

end
end Go.Pu
