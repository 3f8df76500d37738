/- The pure machine, twenty-first part: an operation looks at few blocks. -/
import Derived.Test.YtkaljlpbmbfpgaaGreatDoorRT
set_option linter.unusedSimpArgs false
set_option linter.unusedVariables false
namespace Go.Pu

def Agree (S : List Nat) (h h2 : Heap) : Prop := h2.length = h.length ∧ ∀ b ∈ S, h2[b]? = h[b]?

theorem Agree.mono {S S' : List Nat} {h h2 : Heap} (hs : ∀ b ∈ S', b ∈ S) (hA : Agree S h h2) : Agree S' h h2 := ⟨hA.1, fun b hb => hA.2 b (hs b hb)⟩

/-- a change of heaps that looks at some blocks only, and changes no others -/
structure Lcl {α : Type} (S : List Nat) (T : Heap → Option (α × Heap)) : Prop where
 out : ∀ h h2 a h', Agree S h h2 → T h = some (a, h') → ∃ h2', T h2 = some (a, h2') ∧ Agree S h' h2' ∧ h'.length = h.length ∧ ∀ b, b ∉ S → h'[b]? = h[b]? ∧ h2'[b]? = h2[b]?

section
variable {α β : Type} {S : List Nat}

theorem Lcl.mono {S' : List Nat} {T : Heap → Option (α × Heap)} (hs : ∀ b ∈ S', b ∈ S) (hT : Lcl S' T) : Lcl S T := by
 refine ⟨fun h h2 a h' hA e => ?_⟩
 obtain ⟨h2', e1, e2, e3, e4⟩ := hT.out h h2 a h' (hA.mono hs) e
 refine ⟨h2', e1, ⟨e2.1, fun b hb => ?_⟩, e3, fun b hb => e4 b fun hh => hb (hs b hh)⟩
 by_cases hh : b ∈ S'
 ·exact e2.2 b hh
 ·obtain ⟨f1, f2⟩ := e4 b hh
  rw [f1, f2]; exact hA.2 b hb

theorem Lcl.pure (a : α) : Lcl S fun h => some (a, h) :=
 ⟨fun h h2 a' h' hA e => by cases e; exact ⟨h2, rfl, hA, rfl, fun _ _ => ⟨rfl, rfl⟩⟩⟩

theorem Lcl.none : Lcl S fun _ => (none : Option (α × Heap)) := ⟨fun _ _ _ _ _ e => by cases e⟩

theorem Lcl.bind {T : Heap → Option (α × Heap)} {U : α → Heap → Option (β × Heap)} (hT : Lcl S T) (hU : ∀ a, Lcl S (U a)) : Lcl S fun h => (T h).bind fun r => U r.1 r.2 := by
 refine ⟨fun h h2 a h' hA e => ?_⟩
 cases hr : T h with
 | none => rw [hr] at e; cases e
 | some r =>
  obtain ⟨r1, r2⟩ := r
  rw [hr] at e
  obtain ⟨k1, e1, e2, e3, e4⟩ := hT.out h h2 r1 r2 hA hr
  obtain ⟨k2, f1, f2, f3, f4⟩ := (hU r1).out r2 k1 a h' e2 e
  refine ⟨k2, by rw [e1]; exact f1, f2, f3.trans e3, fun b hb => ?_⟩
  exact ⟨(f4 b hb).1.trans (e4 b hb).1, (f4 b hb).2.trans (e4 b hb).2⟩

theorem Lcl.ite {c : Prop} [Decidable c] {T : Heap → Option (α × Heap)} (hT : c → Lcl S T) : Lcl S fun h => if c then T h else Option.none := by
 by_cases hc : c
 ·simpa [hc] using hT hc
 ·simpa [hc] using Lcl.none

theorem Lcl.iteR {c : Heap → Prop} [∀ h, Decidable (c h)] {T : Heap → Option (α × Heap)} (hc : ∀ h h2, Agree S h h2 → (c h ↔ c h2)) (hT : Lcl S T) : Lcl S fun h => if c h then T h else Option.none := by
 refine ⟨fun h h2 a h' hA e => ?_⟩
 by_cases hh : c h
 ·rw [if_pos hh] at e
  rw [if_pos ((hc h h2 hA).1 hh)]
  exact hT.out h h2 a h' hA e
 ·rw [if_neg hh] at e; cases e

theorem Lcl.read {g : Heap → Option β} (hg : ∀ h h2, Agree S h h2 → g h2 = g h) {U : β → Heap → Option (α × Heap)} (hU : ∀ a, Lcl S (U a)) : Lcl S fun h => (g h).bind fun a => U a h := by
 refine ⟨fun h h2 a h' hA e => ?_⟩
 rw [hg h h2 hA]
 cases hr : g h with
 | none => rw [hr] at e; cases e
 | some r => rw [hr] at e; exact (hU r).out h h2 a h' hA e

theorem Lcl.set {s : Nat} (hs : s ∈ S) (a : α) (b : Blk) : Lcl S fun h => some (a, h.set s b) := by
 refine ⟨fun h h2 a' h' hA e => ?_⟩
 cases e
 refine ⟨h2.set s b, rfl, ⟨by simp [hA.1], fun i hi => ?_⟩, by simp, fun i hi => ?_⟩
 ·simp only [List.getElem?_set, hA.1, hA.2 i hi]
 ·have : s ≠ i := fun e => hi (e ▸ hs)
  simp [List.getElem?_set, this]
end

def frz : Blk → Blk
 | .arr t es _ => .arr t es false
 | x => x

theorem freeze_get (h : Heap) (b i : Nat) : (freeze h b)[i]? = if b = i then (h[i]?).map frz else h[i]? := by
 unfold freeze
 split
 ·rename_i t es l hb
  by_cases e : b = i
  ·subst e; rw [if_pos rfl, hb, List.getElem?_set_self (lt_of_some hb)]; rfl
  ·simp [List.getElem?_set, e]
 ·rename_i hn
  by_cases e : b = i
  ·subst e
   rw [if_pos rfl]
   cases hb : h[b]? with
   | none => rfl
   | some x =>
    cases x with
    | arr t es l => exact absurd hb (hn t es l)
    | _ => rfl
  ·rw [if_neg e]

theorem Lcl.freeze {α : Type} {S : List Nat} {b : Nat} (hb : b ∈ S) (a : α) : Lcl S fun h => some (a, Go.Pu.freeze h b) := by
 refine ⟨fun h h2 a' h' hA e => ?_⟩
 cases e
 refine ⟨Go.Pu.freeze h2 b, rfl, ⟨by rw [freeze_length, freeze_length]; exact hA.1, fun i hi => ?_⟩, freeze_length _ _, fun i hi => ?_⟩
 ·rw [freeze_get, freeze_get, hA.2 i hi]
 ·have : b ≠ i := fun e => hi (e ▸ hb)
  rw [freeze_get, freeze_get, if_neg this, if_neg this]
  exact ⟨rfl, rfl⟩

theorem aliveP_agree {h h2 : Heap} {x : PV} (hA : ∀ b ∈ refs1 x, h2[b]? = h[b]?) : aliveP h2 x = aliveP h x := by
 cases x <;> simp only [aliveP]
 case ptr b o => rw [hA b (by simp [refs1])]
 case aptr b i o => rw [hA b (by simp [refs1])]

theorem okv_agree {h h2 : Heap} {x : PV} (hA : ∀ b ∈ refs1 x, h2[b]? = h[b]?) : okv h2 x = okv h x := by
 cases x <;> simp only [okv]
 case ptr b o => exact aliveP_agree hA
 case aptr b i o => exact aliveP_agree hA
 case all b => rw [hA b (by simp [refs1])]
 case own b o n => rw [hA b (by simp [refs1])]
 case mp b => rw [hA b (by simp [refs1])]

theorem content_agree {h h2 : Heap} {x : PV} (hA : ∀ b ∈ refs1 x, h2[b]? = h[b]?) : content h2 x = content h x := by
 cases x <;> simp only [content]
 case all b => rw [hA b (by simp [refs1])]
 case own b o n => rw [hA b (by simp [refs1])]

theorem refs1_refs {x : PV} {b : Nat} (h : b ∈ refs1 x) : b ∈ refs x := by
 cases x <;> simp_all [refs1, refs]

theorem cells_refs {x : PV} {b : Nat} (h : b ∈ x.cells.flatMap refs1) : b ∈ refs x := by
 cases x <;> simp_all [refs1, refs, PV.cells]

theorem refs_refsT {x : PV} {b : Nat} (h : b ∈ refs x) : b ∈ refsT x := by
 cases x <;> simp_all [refs1, refs, refsT]

theorem purCell_other {k : Kd} {x : PV} (hk : ∀ h, purCell h k x = if cellOK k x then some (x, h) else none) : Lcl (refs1 x) fun h => purCell h k x := by
 simp only [hk]
 exact Lcl.ite fun _ => Lcl.pure x

theorem purCell_lcl (k : Kd) (x : PV) : Lcl (refs1 x) fun h => purCell h k x := by
 cases k with
 | sl t =>
  cases x <;> first
   | exact purCell_other fun h => rfl
   | skip
  case nils => exact Lcl.pure _
  case all b =>
   refine ⟨fun h h2 a h' hA e => ?_⟩
   simp only [purCell] at e ⊢
   rw [hA.2 b (by simp [refs1])]
   split at e
   ·rename_i t' es l hb
    split at e
    ·rename_i ht
     rw [if_pos ht]
     exact (Lcl.freeze (S := refs1 (.all b)) (b := b) (by simp [refs1]) (PV.lst t es)).out h h2 a h' hA e
    ·cases e
   ·cases e
  case own b off n =>
   refine ⟨fun h h2 a h' hA e => ?_⟩
   simp only [purCell] at e ⊢
   rw [hA.2 b (by simp [refs1])]
   split at e
   ·rename_i t' es l hb
    split at e
    ·rename_i ht
     rw [if_pos ht]
     exact (Lcl.freeze (S := refs1 (.own b off n)) (b := b) (by simp [refs1]) (PV.lst t ((es.drop off).take n))).out h h2 a h' hA e
    ·cases e
   ·cases e
 | _ => exact purCell_other fun h => rfl

theorem purCells_lcl : ∀ (ks : List Kd) (cs : List PV), Lcl (cs.flatMap refs1) fun h => purCells h ks cs
 | [], [] => Lcl.pure _
 | [], _ :: _ => Lcl.none
 | _ :: _, [] => Lcl.none
 | k :: ks, c :: cs => by
  have h1 : Lcl ((c :: cs).flatMap refs1) fun h => purCell h k c := (purCell_lcl k c).mono fun b hb => by simp; exact .inl hb
  have h2 : Lcl ((c :: cs).flatMap refs1) fun h => purCells h ks cs := (purCells_lcl ks cs).mono fun b hb => by simp at hb ⊢; exact .inr hb
  simp only [purCells]
  exact h1.bind fun y => h2.bind fun s => Lcl.pure (y :: s)

theorem litEls_lcl (P : Program) (e : TypeId) : ∀ (parts : List (Nat × PV)) (j : Nat), Lcl (parts.flatMap fun p => refs p.2) fun h => litEls P e h j parts
 | [], j => Lcl.pure _
 | (i, v) :: rest, j => by
  have h1 : Lcl (((i, v) :: rest).flatMap fun p => refs p.2) fun h => purCells h (kds P e) v.cells := (purCells_lcl (kds P e) v.cells).mono fun b hb => by simp only [List.flatMap_cons, List.mem_append]; exact .inl (cells_refs hb)
  have h2 : Lcl (((i, v) :: rest).flatMap fun p => refs p.2) fun h => litEls P e h (j + 1) rest := (litEls_lcl P e rest (j + 1)).mono fun b hb => by simp only [List.flatMap_cons, List.mem_append]; exact .inr hb
  simp only [litEls]
  refine Lcl.iteR (fun h k hA => ?_) (h1.bind fun y => h2.bind fun s => Lcl.pure (y :: s))
  rw [okv_agree (h := h) (h2 := k) (x := v) fun b hb => hA.2 b (by simp only [List.flatMap_cons, List.mem_append]; exact .inl (refs1_refs hb))]

end Go.Pu
