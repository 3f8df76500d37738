/- The pure machine, ninth part: blocks that are made; rows that are written no more. -/
import Derived.Test.YtkaljlpbmbfpgaaGreatDoorRH
set_option linter.unusedSimpArgs false
namespace Go.Pu

def upd {α : Type} (f : Nat → α) (i : Nat) (x : α) : Nat → α := fun j => if j = i then x else f j

theorem upd_same {α : Type} (f : Nat → α) (i : Nat) (x : α) : upd f i x i = x := by simp [upd]
theorem upd_other {α : Type} (f : Nat → α) (i j : Nat) (x : α) (h : j ≠ i) : upd f i x j = f j := by simp [upd, h]

structure Grow (w w' : World) : Prop where
 size : w.heap.size ≤ w'.heap.size
 os : w'.os = w.os
 tape : w'.tape = w.tape
 output : w'.output = w.output
 old : ∀ k, k < w.heap.size → w'.heap[k]? = w.heap[k]?

theorem Grow.refl (w : World) : Grow w w := ⟨Nat.le_refl _, rfl, rfl, rfl, fun _ _ => rfl⟩

theorem Grow.alloc (w : World) (o : Obj) : Grow w { w with heap := w.heap.push o } :=
 ⟨by simp, rfl, rfl, rfl, fun k hk => by simp [Array.getElem?_push, Nat.ne_of_lt hk]⟩

theorem Grow.trans {a b c : World} (h : Grow a b) (k : Grow b c) : Grow a c :=
 ⟨Nat.le_trans h.size k.size, k.os.trans h.os, k.tape.trans h.tape, k.output.trans h.output, fun i hi => (k.old i (Nat.lt_of_lt_of_le hi h.size)).trans (h.old i hi)⟩

def AlOK (h : Heap) (al : Option Nat) : Prop := match al with | none => True | some s => h[s]? = some .res

theorem alloc_spec {al : Option Nat} {h : Heap} (hal : AlOK h al) (b : Blk) :
  (allocAt al h b).2[(allocAt al h b).1]? = some b ∧ (∀ i, i ≠ (allocAt al h b).1 → (allocAt al h b).2[i]? = h[i]?) ∧ (h[(allocAt al h b).1]? = none ∨ h[(allocAt al h b).1]? = some .res) := by
 cases al with
 | none =>
  refine ⟨by simp [allocAt], fun i hi => ?_, .inl (by simp [allocAt])⟩
  simp only [allocAt] at hi ⊢
  rcases Nat.lt_trichotomy i h.length with hlt | he | hgt
  ·exact List.getElem?_append_left hlt
  ·exact absurd he hi
  ·rw [List.getElem?_eq_none (by simp; omega), List.getElem?_eq_none (by omega)]
 | some s =>
  have hs : s < h.length := lt_of_some hal
  refine ⟨by simp [allocAt, hs], fun i hi => ?_, .inr hal⟩
  simp only [allocAt] at hi ⊢
  rw [List.getElem?_set, if_neg (Ne.symm hi)]

section
variable {P : Program} {E E' : Env}

theorem heap_lt {w : World} {k : Nat} {o : Obj} (h : w.heap[k]? = some o) : k < w.heap.size := (Array.getElem?_eq_some_iff.1 h).1

theorem Inv.mapHas_lt (hI : Inv P E) {b blk : Nat} (h : MapHas E b blk) : blk < E.w.heap.size := by
 obtain ⟨t, es, st, ob, eo, clock, hb, hst, hρ, hw, hc⟩ := h
 have hB := hI.blk b
 unfold BlkAt at hB
 rw [hb] at hB
 simp only at hB
 obtain ⟨ob', eo', clock', r1, r2, r3, r4, r5, r6, r7, r8, r9⟩ := hB
 rw [hρ] at r1
 cases r1
 rw [hw] at r2
 cases r2
 rcases hc with rfl | ⟨i, hi, hhas, harr⟩
 ·exact heap_lt hw
 ·obtain ⟨c, T, q1, _⟩ := (r5 i hi).arr (.inl hhas) harr
  exact heap_lt q1

/-- what is owned lies in memory -/
theorem Inv.owned_lt (hI : Inv P E) {blk : Nat} (h : Owned E blk) : blk < E.w.heap.size := by
 obtain ⟨b, (⟨o, hr, hh⟩ | hm)⟩ := h
 case inr => exact hI.mapHas_lt hm
 have hb := hI.blk b
 unfold BlkAt at hb
 rcases hh with ⟨t, es, he⟩ | ⟨t, cs, he⟩
 ·rw [he] at hb
  simp only [hr] at hb
  obtain ⟨_, sz, c, T, _, h1, _⟩ := hb
  exact heap_lt h1
 ·rw [he] at hb
  obtain ⟨blk', o', c, T, h0, h1, _⟩ := hb
  rw [hr] at h0
  obtain ⟨rfl, rfl⟩ := Prod.mk.inj (Option.some.inj h0)
  exact heap_lt h1

def live (b : Option Blk) : Prop := (∃ t es, b = some (.arr t es true)) ∨ ∃ t cs, b = some (.box t cs)

/-- the concrete blocks that a block speaks of -/
def Hold (E : Env) (b blk : Nat) : Prop := (∃ o, E.ρ b = some (blk, o) ∧ ((∃ t es l, E.h[b]? = some (.arr t es l)) ∨ ∃ t cs, E.h[b]? = some (.box t cs))) ∨ MapHas E b blk

theorem SlcIn.keep (hI : Inv P E) (hT : Trans E E') {st : MS} {u : TypeId} {rows : List (List PV)} {v : Value} (hw : ∀ blk, ArrOf v blk → E'.w.heap[blk]? = E.w.heap[blk]?)
  (him : st ≠ .fz → ∀ blk, ArrOf v blk → E'.im blk → E.im blk) (h : SlcIn P E st u rows v) : SlcIn P E' st u rows v := by
 obtain ⟨sz, A, cap, h1, h2, h3, h4, h5⟩ := h
 refine ⟨sz, A, cap, h1, h2, h3, h4, ?_⟩
 rcases h5 with h5 | ⟨blk, o, c, T, q1, q2, q3, q4, q5, q6⟩
 ·exact .inl h5
 ·by_cases h0 : cap = 0
  ·exact .inl ⟨h0, fun _ => h0⟩
  ·have ha : ArrOf v blk := ⟨o, rows.length, cap, by rw [h2, q1], h0⟩
   exact .inr ⟨blk, o, c, T, q1, by rw [hw blk ha]; exact q2, q3, fun i j hi hj => (q4 i j hi hj).mono hI hT, fun hs hm => q5 hs (him hs blk ha hm), fun hs => hT.im _ (q6 hs)⟩

theorem BlkAt.keep (hI : Inv P E) (hT : Trans E E') {b : Nat} (hh : E'.h[b]? = E.h[b]?) (hr : E'.ρ b = E.ρ b) (hw : ∀ blk, Hold E b blk → blk < E.w.heap.size → E'.w.heap[blk]? = E.w.heap[blk]?)
  (him : ∀ blk, OwnB E b blk → E'.im blk → E.im blk) (h : BlkAt P E b) : BlkAt P E' b := by
 unfold BlkAt at h ⊢
 rw [hh]
 cases hx : E.h[b]? with
 | none => trivial
 | some x =>
  rw [hx] at h
  cases x with
  | dead => trivial
  | res => trivial
  | arr t es l =>
   refine ⟨h.1, ?_⟩
   rw [hr]
   cases hρ : E.ρ b with
   | none => have := h.2; rw [hρ] at this; exact this
   | some p =>
    obtain ⟨blk, o⟩ := p
    have := h.2
    rw [hρ] at this
    obtain ⟨sz, c, T, h1, h2, h3, h4, h5, h6⟩ := this
    exact ⟨sz, c, T, h1, by rw [hw _ (.inl ⟨o, hρ, .inl ⟨t, es, l, hx⟩⟩) (heap_lt h2)]; exact h2, h3, fun i j hi hj => (h4 i j hi hj).mono hI hT, fun hl hm => h5 hl (him _ (.inl ⟨o, hρ, .inl ⟨t, es, by rw [hx, hl]⟩⟩) hm), fun hl => hT.im _ (h6 hl)⟩
  | box t cs =>
   obtain ⟨blk, o, c, T, h1, h2, h3, h4, h5⟩ := h
   exact ⟨blk, o, c, T, by rw [hr]; exact h1, by rw [hw _ (.inl ⟨o, h1, .inr ⟨t, cs, hx⟩⟩) (heap_lt h2)]; exact h2, h3, fun j hj => (h4 j hj).mono hI hT, fun hm => h5 (him _ (.inl ⟨o, h1, .inr ⟨t, cs, hx⟩⟩) hm)⟩
  | map t es st =>
   obtain ⟨ob, eo, clock, r1, r2, r3, r4, r5, r6, r7, r8, r9⟩ := h
   have hob : E'.w.heap[ob]? = E.w.heap[ob]? := by
    by_cases hs : st = .fz
    ·exact hT.im_same hI (r9 hs)
    ·exact hw _ (.inr ⟨t, es, st, ob, eo, clock, hx, hs, r1, r2, .inl rfl⟩) (heap_lt r2)
   refine ⟨ob, eo, clock, by rw [hr]; exact r1, by rw [hob]; exact r2, r3, r4, fun i hi => ?_, r6, r7, fun hs hm => r8 hs (him _ (.inr ⟨t, es, st, ob, eo, clock, hx, hs, r1, r2, .inl rfl⟩) hm), fun hs => hT.im _ (r9 hs)⟩
   obtain ⟨k, x, e1, e2, e3⟩ := r5 i hi
   refine ⟨k, x, e1, e2, fun hs => ?_⟩
   have h3 := e3 hs
   split
   ·rename_i u hu
    rw [hu] at h3
    obtain ⟨rows, q1, q2⟩ := h3
    refine ⟨rows, q1, q2.keep hI hT (fun blk ha => ?_) (fun hst blk ha hm => ?_)⟩
    ·obtain ⟨c, T, p1, p2, p3⟩ := (r5 i hi).arr hs ha
     by_cases hst : st = .fz
     ·exact hT.im_same hI (p3 hst)
     ·rcases hs with hs | hs
      ·exact hw _ (.inr ⟨t, es, st, ob, eo, clock, hx, hst, r1, r2, .inr ⟨i, hi, hs, ha⟩⟩) (heap_lt p1)
      ·exact absurd hs hst
    ·rcases hs with hs | hs
     ·exact him _ (.inr ⟨t, es, st, ob, eo, clock, hx, hst, r1, r2, .inr ⟨i, hi, hs, ha⟩⟩) hm
     ·exact absurd hs hst
   ·rename_i hu
    split at h3
    ·rename_i u hu2
     exact absurd hu2 (hu u)
    ·exact h3

theorem Inv.mapOb_lt (hI : Inv P E) {b ob : Nat} (hρ : E.ρ b = some (ob, 0)) (hb : ∃ t es st, E.h[b]? = some (.map t es st)) : ob < E.w.heap.size := by
 obtain ⟨t, es, st, hb⟩ := hb
 have hB := hI.blk b
 unfold BlkAt at hB
 rw [hb] at hB
 obtain ⟨ob', eo', clock', r1, r2, _⟩ := hB
 rw [hρ] at r1
 cases r1
 exact heap_lt r2

theorem Inv.mapOb (hI : Inv P E) {b ob : Nat} (hρ : E.ρ b = some (ob, 0)) (hb : ∃ t es st, E.h[b]? = some (.map t es st)) : ∃ eo clock, E.w.heap[ob]? = some (.map eo clock) := by
 obtain ⟨t, es, st, hb⟩ := hb
 have hB := hI.blk b
 unfold BlkAt at hB
 rw [hb] at hB
 obtain ⟨ob', eo', clock', r1, r2, _⟩ := hB
 rw [hρ] at r1
 cases r1
 exact ⟨_, _, r2⟩

/-- what one block speaks of is not what another one owns -/
theorem Hold.ne (hI : Inv P E) {i b k blk : Nat} (h : Hold E i k) (hb : OwnB E b blk) (e : i ≠ b) : k ≠ blk := by
 rintro rfl
 rcases h with ⟨o, hρ, ⟨t, es, l, hx⟩ | ⟨t, cs, hx⟩⟩ | hm
 ·cases l with
  | true => exact e (hI.own i b k (.inl ⟨o, hρ, .inl ⟨t, es, hx⟩⟩) hb)
  | false =>
   have := hI.blk i
   unfold BlkAt at this
   rw [hx] at this
   simp only [hρ] at this
   obtain ⟨_, _, _, _, _, _, _, _, _, h7⟩ := this
   exact hI.not_owned (h7 trivial) ⟨b, hb⟩
 ·exact e (hI.own i b k (.inl ⟨o, hρ, .inr ⟨t, cs, hx⟩⟩) hb)
 ·exact e (hI.own i b k (.inr hm) hb)

def Env.add (E : Env) (w' : World) (al : Option Nat) (b : Blk) (r : Option (Nat × Nat)) : Env :=
 { w := w', h := (allocAt al E.h b).2, ρ := upd E.ρ (allocAt al E.h b).1 r, im := E.im }

theorem add_new {w' : World} {al : Option Nat} {b : Blk} {r : Option (Nat × Nat)} (hal : AlOK E.h al) (hr : ∀ blk o, r = some (blk, o) → E.w.heap.size ≤ blk) (hm : ∀ t es st, b = .map t es st → es = [])
  {blk : Nat} (h : OwnB (E.add w' al b r) (allocAt al E.h b).1 blk) : E.w.heap.size ≤ blk := by
 obtain ⟨h1, h2, h3⟩ := alloc_spec hal b
 rcases h with ⟨o, hρ, hh⟩ | ⟨t, es, st, ob, eo, clock, k1, k2, k3, k4, k5⟩
 ·exact hr _ _ (by rw [← hρ]; exact (upd_same _ _ _).symm)
 ·have e : b = .map t es st := by
   rw [show (E.add w' al b r).h[(allocAt al E.h b).1]? = some b from h1] at k1
   exact Option.some.inj k1
  have hob := hr _ _ (show r = some (ob, 0) by rw [← k3]; exact (upd_same _ _ _).symm)
  have := hm _ _ _ e
  subst this
  rcases k5 with rfl | ⟨i, hi, _⟩
  ·exact hob
  ·simp at hi

theorem add_old (hI : Inv P E) {w' : World} {al : Option Nat} {b : Blk} {r : Option (Nat × Nat)} (hal : AlOK E.h al) (hg : Grow E.w w') {i blk : Nat} (e : i ≠ (allocAt al E.h b).1) (h : OwnB (E.add w' al b r) i blk) : OwnB E i blk := by
 obtain ⟨h1, h2, h3⟩ := alloc_spec hal b
 exact h.keep (h2 i e) (upd_other _ _ _ _ e) fun ob hρ hb => hg.old ob (hI.mapOb_lt hρ hb)

theorem add_trans (hI : Inv P E) {w' : World} {al : Option Nat} {b : Blk} {r : Option (Nat × Nat)} (hal : AlOK E.h al) (hg : Grow E.w w') (hr : ∀ blk o, r = some (blk, o) → E.w.heap.size ≤ blk) (hm : ∀ t es st, b = .map t es st → es = [] := by intro _ _ _ h; cases h) : Trans E (E.add w' al b r) := by
 obtain ⟨h1, h2, h3⟩ := alloc_spec hal b
 have hne : ∀ i, E.h[i]? ≠ none → E.h[i]? ≠ some .res → i ≠ (allocAt al E.h b).1 := by
  rintro i ha hb rfl
  rcases h3 with h3 | h3
  ·exact ha h3
  ·exact hb h3
 refine ⟨fun i => ?_, fun i hi hn _ => ?_, fun _ h => h, hg.size, hg.os, hg.tape, hg.output, fun blk hb _ => hg.old blk hb, fun blk c T fz hc => ⟨c, ?_, rfl⟩, fun blk hb ho => ?_, fun _ _ h => .inl h⟩
 ·show Compat E.h[i]? (allocAt al E.h b).2[i]?
  by_cases e : i = (allocAt al E.h b).1
  ·subst e
   rcases h3 with h3 | h3
   ·rw [h3]; trivial
   ·rw [h3, h1]; trivial
  ·rw [h2 i e]
   exact Compat.refl _
 ·show upd E.ρ _ r i = E.ρ i
  exact upd_other _ _ _ _ (hne i (by simp [hi]) hn)
 ·rw [show (E.add w' al b r).w = w' from rfl, hg.old blk (heap_lt hc)]
  exact hc
 ·obtain ⟨i, ho⟩ := ho
  by_cases e : i = (allocAt al E.h b).1
  ·subst e
   have := add_new hal hr hm ho
   omega
  ·exact ⟨i, add_old hI hal hg e ho⟩

theorem add_inv (hI : Inv P E) {w' : World} {al : Option Nat} {b : Blk} {r : Option (Nat × Nat)} (hal : AlOK E.h al) (hg : Grow E.w w') (hr : ∀ blk o, r = some (blk, o) → E.w.heap.size ≤ blk)
  (hb : BlkAt P (E.add w' al b r) (allocAt al E.h b).1) (hm : ∀ t es st, b = .map t es st → es = [] := by intro _ _ _ h; cases h) : Inv P (E.add w' al b r) := by
 have hT := add_trans hI (b := b) hal hg hr hm
 obtain ⟨h1, h2, h3⟩ := alloc_spec hal b
 refine ⟨fun i => ?_, fun i j blk hi hj => ?_, fun blk hm => Nat.lt_of_lt_of_le (hI.imlt blk hm) hg.size, hI.tabT hT⟩
 ·by_cases e : i = (allocAt al E.h b).1
  ·subst e; exact hb
  ·exact (hI.blk i).keep hI hT (h2 i e) (upd_other _ _ _ _ e) (fun blk _ hlt => hg.old blk hlt) (fun _ _ h => h)
 ·by_cases ei : i = (allocAt al E.h b).1 <;> by_cases ej : j = (allocAt al E.h b).1
  ·rw [ei, ej]
  ·subst ei
   have k1 := add_new hal hr hm hi
   have k2 := hI.owned_lt ⟨j, add_old hI hal hg ej hj⟩
   omega
  ·subst ej
   have k1 := add_new hal hr hm hj
   have k2 := hI.owned_lt ⟨i, add_old hI hal hg ei hi⟩
   omega
  ·exact hI.own i j blk (add_old hI hal hg ei hi) (add_old hI hal hg ej hj)

/-- what a step makes of a value -/
def Res (P : Program) (E : Env) (h' : Heap) (x : PV) (v : Value) (w' : World) : Prop :=
 ∃ E', E'.w = w' ∧ E'.h = h' ∧ Trans E E' ∧ Inv P E' ∧ Rep P E' x v

theorem Res.same (hI : Inv P E) {x : PV} {v : Value} (h : Rep P E x v) : Res P E E.h x v E.w := ⟨E, rfl, rfl, Trans.refl E, hI, h⟩

/-- a new variable -/
theorem add_box (hI : Inv P E) {al : Option Nat} (hal : AlOK E.h al) (t T : TypeId) {cs : List PV} {vs : Array Value} (hc : RepCs P E cs vs) :
  Res P E (allocAt al E.h (.box t cs)).2 (.ptr (allocAt al E.h (.box t cs)).1 0) (.pointer (some ⟨E.w.heap.size, 0, none⟩)) { E.w with heap := E.w.heap.push (.cells vs T) } := by
 have hg := Grow.alloc E.w (.cells vs T)
 have hr : ∀ blk o, some (E.w.heap.size, 0) = some (blk, o) → E.w.heap.size ≤ blk := by rintro blk o h; cases h; exact Nat.le_refl _
 have hT := add_trans hI (b := .box t cs) (r := some (E.w.heap.size, 0)) hal hg hr
 obtain ⟨h1, h2, h3⟩ := alloc_spec hal (.box t cs)
 have hρ : (E.add { E.w with heap := E.w.heap.push (.cells vs T) } al (.box t cs) (some (E.w.heap.size, 0))).ρ (allocAt al E.h (.box t cs)).1 = some (E.w.heap.size, 0) := upd_same _ _ _
 have hh : (E.add { E.w with heap := E.w.heap.push (.cells vs T) } al (.box t cs) (some (E.w.heap.size, 0))).h[(allocAt al E.h (.box t cs)).1]? = some (.box t cs) := h1
 refine ⟨E.add _ al (.box t cs) (some (E.w.heap.size, 0)), rfl, rfl, hT, add_inv hI hal hg hr ?_, .ptr _ _ _ ?_⟩
 ·unfold BlkAt
  rw [hh]
  refine ⟨E.w.heap.size, 0, vs, T, hρ, (show (E.w.heap.push (Obj.cells vs T))[E.w.heap.size]? = _ by simp), by simpa using Nat.le_of_eq hc.1, fun j hj => ?_, fun hm => Nat.lt_irrefl _ (hI.imlt _ hm)⟩
  rw [Nat.zero_add]
  exact (hc.2 j hj).mono hI hT
 ·unfold PtrAt
  rw [hh]
  exact ⟨_, _, hρ, by simp⟩

/-- a new row -/
theorem add_arr (hI : Inv P E) {al : Option Nat} (hal : AlOK E.h al) (t T : TypeId) {sz : Nat} (hs : elSize P t = some sz) {es : List (List PV)} {c : Array Value} {w' : World} {blk : Nat} (hg : Grow E.w w') (hblk : E.w.heap.size ≤ blk)
  (hw : w'.heap[blk]? = some (.cells c T (0, 0))) (hle : es.length * sz ≤ c.size) (hk : ∀ i, i < es.length → cellsOK (kds P t) (es.getD i []) = true)
  (hc : ∀ i j, i < es.length → j < sz → Rep P E ((es.getD i []).getD j .top) (c.getD (i * sz + j) undef)) {cap : Nat} (hcap : es.length ≤ cap) (hcs : cap * sz ≤ c.size) :
  Res P E (allocAt al E.h (.arr t es true)).2 (.all (allocAt al E.h (.arr t es true)).1) (.slice (some ⟨blk, 0, none⟩) es.length cap) w' := by
 have hr : ∀ b o, some (blk, 0) = some (b, o) → E.w.heap.size ≤ b := by rintro b o h; cases h; exact hblk
 have hT := add_trans hI (b := .arr t es true) (r := some (blk, 0)) hal hg hr
 obtain ⟨h1, h2, h3⟩ := alloc_spec hal (.arr t es true)
 have hρ : (E.add w' al (.arr t es true) (some (blk, 0))).ρ (allocAt al E.h (.arr t es true)).1 = some (blk, 0) := upd_same _ _ _
 have hh : (E.add w' al (.arr t es true) (some (blk, 0))).h[(allocAt al E.h (.arr t es true)).1]? = some (.arr t es true) := h1
 refine ⟨E.add w' al (.arr t es true) (some (blk, 0)), rfl, rfl, hT, add_inv hI hal hg hr ?_, .all _ es.length _ ?_ ?_⟩
 ·unfold BlkAt
  rw [hh]
  refine ⟨hk, ?_⟩
  rw [hρ]
  refine ⟨sz, c, T, hs, hw, by simpa using hle, fun i j hi hj => ?_, fun _ hm => ?_, fun h => by cases h⟩
  ·rw [Nat.zero_add]
   exact (hc i j hi hj).mono hI hT
  ·have := hI.imlt _ hm
   omega
 ·intro t' es' l' e
  rw [hh] at e
  cases e
  rfl
 ·unfold SlcAt
  rw [hh]
  refine ⟨by simp, sz, _, cap, hs, rfl, hcap, ?_⟩
  by_cases h0 : cap = 0
  ·exact .inl h0
  ·exact .inr ⟨blk, 0, c, T, hρ, by simp, hw, by simpa using hcs⟩

/-- an empty row that lies nowhere -/
theorem add_none (hI : Inv P E) {al : Option Nat} (hal : AlOK E.h al) (t : TypeId) {sz : Nat} (hs : elSize P t = some sz) (A : Option Addr) :
  Res P E (allocAt al E.h (.arr t [] true)).2 (.all (allocAt al E.h (.arr t [] true)).1) (.slice A 0 0) E.w := by
 have hr : ∀ b o, (none : Option (Nat × Nat)) = some (b, o) → E.w.heap.size ≤ b := by rintro b o h; cases h
 have hT := add_trans hI (b := .arr t [] true) (r := none) hal (Grow.refl E.w) hr
 obtain ⟨h1, h2, h3⟩ := alloc_spec hal (.arr t [] true)
 have hρ : (E.add E.w al (.arr t [] true) none).ρ (allocAt al E.h (.arr t [] true)).1 = none := upd_same _ _ _
 have hh : (E.add E.w al (.arr t [] true) none).h[(allocAt al E.h (.arr t [] true)).1]? = some (.arr t [] true) := h1
 refine ⟨E.add E.w al (.arr t [] true) none, rfl, rfl, hT, add_inv hI hal (Grow.refl _) hr ?_, .all _ 0 _ ?_ ?_⟩
 ·unfold BlkAt
  rw [hh]
  refine ⟨fun i hi => by simp at hi, ?_⟩
  rw [hρ]
 ·intro t' es' l' e
  rw [hh] at e
  cases e
  rfl
 ·unfold SlcAt
  rw [hh]
  exact ⟨by simp, sz, A, 0, hs, rfl, Nat.le_refl _, .inl rfl⟩

/-- a row that is written no more -/
theorem freeze_env (hI : Inv P E) (b : Nat) : ∃ E', E'.w = E.w ∧ E'.h = freeze E.h b ∧ E'.ρ = E.ρ ∧ Trans E E' ∧ Inv P E' ∧
  ∀ t es l, E.h[b]? = some (.arr t es l) → E'.h[b]? = some (.arr t es false) ∧ ∀ blk o, E.ρ b = some (blk, o) → E'.im blk := by
 unfold freeze
 cases hb : E.h[b]? with
 | none => exact ⟨E, rfl, rfl, rfl, Trans.refl E, hI, fun t es l e => by cases e⟩
 | some x =>
  cases x with
  | dead => exact ⟨E, rfl, rfl, rfl, Trans.refl E, hI, fun t es l e => by cases e⟩
  | res => exact ⟨E, rfl, rfl, rfl, Trans.refl E, hI, fun t es l e => by cases e⟩
  | box => exact ⟨E, rfl, rfl, rfl, Trans.refl E, hI, fun t es l e => by cases e⟩
  | map => exact ⟨E, rfl, rfl, rfl, Trans.refl E, hI, fun t es l e => by cases e⟩
  | arr t es l =>
   have hlt := lt_of_some hb
   let E' : Env := { w := E.w, h := E.h.set b (.arr t es false), ρ := E.ρ, im := fun k => E.im k ∨ ∃ o, E.ρ b = some (k, o) }
   have hsame : (E.h.set b (.arr t es false))[b]? = some (.arr t es false) := by simp [hlt]
   have hoth : ∀ i, i ≠ b → (E.h.set b (.arr t es false))[i]? = E.h[i]? := fun i hi => by rw [List.getElem?_set, if_neg (Ne.symm hi)]
   have hconv : ∀ i blk, OwnB E' i blk → OwnB E i blk ∧ i ≠ b := by
    intro i blk h
    by_cases e : i = b
    ·subst e
     have h1 : E'.h[i]? = some (.arr t es false) := hsame
     rcases h with ⟨o, _, ⟨t', es', hh⟩ | ⟨t', cs', hh⟩⟩ | ⟨_, _, _, _, _, _, hh, _⟩
     ·rw [h1] at hh; cases hh
     ·rw [h1] at hh; cases hh
     ·rw [h1] at hh; cases hh
    ·exact ⟨OwnB.keep (E := E) (E' := E') (hoth i e) rfl (fun _ _ _ => rfl) h, e⟩
   have hown : ∀ blk, Owned E' blk → Owned E blk := fun blk ⟨i, h⟩ => ⟨i, (hconv i blk h).1⟩
   have hT : Trans E E' := by
    refine ⟨fun i => ?_, fun _ _ _ _ => rfl, fun _ h => .inl h, Nat.le_refl _, rfl, rfl, rfl, fun _ _ _ => rfl, fun blk c T fz h => ⟨c, h, rfl⟩, fun blk _ h => hown blk h, fun blk _ hm => ?_⟩
    ·show Compat E.h[i]? (E.h.set b (.arr t es false))[i]?
     by_cases e : i = b
     ·subst e; rw [hsame, hb]; exact ⟨rfl, rfl, fun h => by cases h⟩
     ·rw [hoth i e]; exact Compat.refl _
    ·rcases hm with hm | ⟨o, hρ⟩
     ·exact .inl hm
     ·cases l with
      | true => exact .inr ⟨b, .inl ⟨o, hρ, .inl ⟨t, es, hb⟩⟩⟩
      | false =>
       have hq := hI.blk b
       unfold BlkAt at hq
       rw [hb] at hq
       have := hq.2
       rw [hρ] at this
       obtain ⟨_, _, _, _, _, _, _, _, h7⟩ := this
       exact .inl (h7 rfl)
   have hblk := hI.blk b
   unfold BlkAt at hblk
   rw [hb] at hblk
   refine ⟨E', rfl, rfl, rfl, hT, ⟨fun i => ?_, fun i j blk hi hj => hI.own i j blk (hconv i blk hi).1 (hconv j blk hj).1, fun blk hm => ?_, hI.tabT hT⟩, fun t' es' l' e => ?_⟩
   ·by_cases e : i = b
    ·subst e
     unfold BlkAt
     rw [show E'.h[i]? = some (.arr t es false) from hsame]
     refine ⟨hblk.1, ?_⟩
     show match E.ρ i with | none => _ | some (blk, o) => _
     cases hρ : E.ρ i with
     | none => have := hblk.2; rw [hρ] at this; exact this
     | some p =>
      obtain ⟨blk, o⟩ := p
      have := hblk.2
      rw [hρ] at this
      obtain ⟨sz, c, T, h1, h2, h3, h4, h5, h6⟩ := this
      exact ⟨sz, c, T, h1, h2, h3, fun i j hi hj => (h4 i j hi hj).mono hI hT, (fun h => by cases h), fun _ => .inr ⟨o, hρ⟩⟩
    ·refine (hI.blk i).keep hI hT (hoth i e) rfl (fun _ _ _ => rfl) (fun blk ho hm => ?_)
     rcases hm with hm | ⟨o2, hρ2⟩
     ·exact hm
     ·cases l with
      | true => exact absurd (hI.own i b blk ho (.inl ⟨o2, hρ2, .inl ⟨t, es, hb⟩⟩)) e
      | false =>
       have := hblk.2
       rw [hρ2] at this
       obtain ⟨_, _, _, _, _, _, _, _, h7⟩ := this
       exact h7 rfl
   ·rcases hm with hm | ⟨o, hρ⟩
    ·exact hI.imlt blk hm
    ·have := hblk.2
     rw [hρ] at this
     obtain ⟨_, _, _, _, h2, _⟩ := this
     exact heap_lt h2
   ·cases e
    exact ⟨hsame, fun blk o hρ => .inr ⟨o, hρ⟩⟩

end
end Go.Pu
