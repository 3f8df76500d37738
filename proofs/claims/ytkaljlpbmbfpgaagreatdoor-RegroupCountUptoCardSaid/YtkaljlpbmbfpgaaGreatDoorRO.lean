/- The pure machine, fifteenth part: what a call is handed, and what it hands back. -/
import Derived.Test.YtkaljlpbmbfpgaaGreatDoorRN
set_option linter.unusedSimpArgs false
namespace Go.Pu

/-- as Trans, but only the first k blocks keep their numbers -/
structure TransK (k : Nat) (E E' : Env) : Prop where
 compat : ∀ b : Nat, b < k → Compat E.h[b]? E'.h[b]?
 rho : ∀ b : Nat, b < k → E.h[b]? ≠ some .res → E'.h[b]? ≠ some .dead → E'.ρ b = E.ρ b
 im : ∀ blk, E.im blk → E'.im blk
 size : E.w.heap.size ≤ E'.w.heap.size
 os : E'.w.os = E.w.os
 tape : E'.w.tape = E.w.tape
 output : E'.w.output = E.w.output
 frame : ∀ blk, blk < E.w.heap.size → ¬ Owned E blk → E'.w.heap[blk]? = E.w.heap[blk]?
 shape : ∀ (blk : Nat) (c : Array Value) (T : TypeId) (fz : Nat × Nat), E.w.heap[blk]? = some (.cells c T fz) → ∃ c' : Array Value, E'.w.heap[blk]? = some (.cells c' T fz) ∧ c'.size = c.size
 owned : ∀ blk, blk < E.w.heap.size → Owned E' blk → Owned E blk
 imold : ∀ blk, blk < E.w.heap.size → E'.im blk → E.im blk ∨ Owned E blk
 lt : k ≤ E.h.length

theorem Trans.toK {E E' : Env} (h : Trans E E') {k : Nat} (hk : k ≤ E.h.length) : TransK k E E' :=
 ⟨fun b _ => h.compat b, fun b hb hn hd => h.rho b (by omega) hn hd, h.im, h.size, h.os, h.tape, h.output, h.frame, h.shape, h.owned, h.imold, hk⟩

theorem TransK.le {E E' : Env} {k : Nat} (h : TransK k E E') : k ≤ E'.h.length := by
 rcases Nat.eq_zero_or_pos k with h0 | h0
 ·omega
 ·have hc := h.compat (k - 1) (by omega)
  have hl := h.lt
  have h1 : E.h[k - 1]? ≠ none := by
   rw [List.getElem?_eq_getElem (by omega)]
   simp
  have h2 := hc.some_left h1
  rcases Nat.lt_or_ge (k - 1) E'.h.length with hh | hh
  ·omega
  ·rw [List.getElem?_eq_none hh] at h2
   exact absurd rfl h2

theorem TransK.trans {E E' E'' : Env} {k : Nat} (h : TransK k E E') (g : TransK k E' E'') : TransK k E E'' where
 compat b hb := (h.compat b hb).trans (g.compat b hb)
 rho b hb hn hd := by
  have h1 : E'.h[b]? ≠ some .dead := fun e => hd (by have := g.compat b hb; rw [e] at this; exact this.dead)
  have h2 : E'.h[b]? ≠ some .res := fun e => by
   have := h.compat b hb
   rw [e] at this
   have hl := h.lt
   rcases this.res with hh | hh
   ·rw [List.getElem?_eq_getElem (by omega)] at hh; cases hh
   ·exact hn hh
  rw [g.rho b hb h2 hd, h.rho b hb hn h1]
 im blk hi := g.im blk (h.im blk hi)
 size := Nat.le_trans h.size g.size
 os := g.os.trans h.os
 tape := g.tape.trans h.tape
 output := g.output.trans h.output
 frame blk hb ho := by
  rw [g.frame blk (Nat.lt_of_lt_of_le hb h.size) (fun x => ho (h.owned blk hb x)), h.frame blk hb ho]
 shape blk c T fz hc := by
  obtain ⟨c1, h1, e1⟩ := h.shape blk c T fz hc
  obtain ⟨c2, h2, e2⟩ := g.shape blk c1 T fz h1
  exact ⟨c2, h2, e2.trans e1⟩
 owned blk hb ho := h.owned blk hb (g.owned blk (Nat.lt_of_lt_of_le hb h.size) ho)
 imold blk hb hm := by
  rcases g.imold blk (Nat.lt_of_lt_of_le hb h.size) hm with h1 | h1
  ·exact h.imold blk hb h1
  ·exact .inr (h.owned blk hb h1)
 lt := h.lt

theorem nodup_nd : ∀ {l : List Nat}, nodup l = true → l.Nodup
 | [], _ => List.nodup_nil
 | b :: bs, h => by
  simp only [nodup, Bool.and_eq_true, Bool.not_eq_true', List.contains_eq_mem, decide_eq_false_iff_not] at h
  exact List.nodup_cons.2 ⟨h.1, nodup_nd h.2⟩

theorem idxOf_get : ∀ {l : List Nat} {i : Nat} (h : i < l.length), l.Nodup → l.idxOf l[i] = i
 | [], i, h, _ => by simp at h
 | b :: bs, 0, _, _ => by simp [List.idxOf_cons]
 | b :: bs, i + 1, h, hn => by
  have hb := List.nodup_cons.1 hn
  have hi : i < bs.length := by simpa using h
  have hne : b ≠ bs[i] := fun e => hb.1 (e ▸ List.getElem_mem hi)
  simp only [List.getElem_cons_succ, List.idxOf_cons]
  have : (b == bs[i]) = false := by simpa using hne
  rw [this]
  simp [idxOf_get hi hb.2]

theorem get_idxOf : ∀ {l : List Nat} {b : Nat}, b ∈ l → l[l.idxOf b]? = some b
 | [], b, h => by simp at h
 | a :: l, b, h => by
  by_cases e : a = b
  ·subst e; simp [List.idxOf_cons]
  ·have hb : b ∈ l := by
    cases h with
    | head => exact absurd rfl e
    | tail _ h => exact h
   simp only [List.idxOf_cons]
   have : (a == b) = false := by simpa using e
   rw [this]
   simpa using get_idxOf hb

structure Reach (h : Heap) (roots ids : List Nat) : Prop where
 nd : ids.Nodup
 ok : ∀ b ∈ ids, okBlk (h.getD b .res) = true
 cl : ∀ b ∈ ids, ∀ c ∈ boxRefs h b, c ∈ ids
 rt : ∀ b ∈ roots, b ∈ ids

theorem reach_spec {h : Heap} {roots ids : List Nat} (hr : reach h roots = some ids) : Reach h roots ids := by
 unfold reach at hr
 simp only at hr
 split at hr
 ·rename_i hc
  obtain rfl := Option.some.inj hr
  simp only [Bool.and_eq_true] at hc
  obtain ⟨⟨⟨h1, h2⟩, h3⟩, h4⟩ := hc
  refine ⟨nodup_nd h1, fun b hb => List.all_eq_true.1 h2 b hb, fun b hb c hcc => ?_, fun b hb => ?_⟩
  ·have := List.all_eq_true.1 h3 c (List.mem_flatMap.2 ⟨b, hb, hcc⟩)
   simpa using this
  ·have := List.all_eq_true.1 h4 b hb
   simpa using this
 ·cases hr

theorem Reach.some {h : Heap} {roots ids : List Nat} (hr : Reach h roots ids) {b : Nat} (hb : b ∈ ids) : ∃ x, h[b]? = some x ∧ x ≠ .res ∧ h.getD b .dead = x := by
 have := hr.ok b hb
 cases hx : h[b]? with
 | none => simp [List.getD, hx, okBlk] at this
 | some x =>
  refine ⟨x, rfl, fun e => ?_, by simp [List.getD, hx]⟩
  subst e
  simp [List.getD, hx, okBlk] at this

def Env.sub (E : Env) (ids : List Nat) : Env := { w := E.w, h := heapOf E.h ids, ρ := fun i => (ids[i]?).bind E.ρ, im := E.im }

section
variable {P : Program} {E E' : Env}

theorem live_ren {f : Nat → Nat} {x : Option Blk} : live (x.map (renBlk f)) ↔ live x := by
 cases x with
 | none => simp [live]
 | some b => cases b <;> simp [live, renBlk]

theorem sub_get {roots ids : List Nat} (hr : Reach E.h roots ids) {b : Nat} (hb : b ∈ ids) : (E.sub ids).h[ids.idxOf b]? = (E.h[b]?).map (renBlk ids.idxOf) := by
 obtain ⟨x, h1, _, h3⟩ := hr.some hb
 show (ids.map fun b => renBlk ids.idxOf (E.h.getD b .dead))[ids.idxOf b]? = _
 rw [List.getElem?_map, get_idxOf hb, h1]
 simp only [Option.map_some, h3]

theorem sub_rn {roots ids : List Nat} (hr : Reach E.h roots ids) : Rn E (E.sub ids) ids.idxOf (· ∈ ids) :=
 ⟨rfl, fun _ h => h, fun b hb => sub_get hr hb, fun b hb => by show (ids[ids.idxOf b]?).bind E.ρ = _; rw [get_idxOf hb]; rfl⟩

theorem sub_at {roots ids : List Nat} (hr : Reach E.h roots ids) {i : Nat} {x : Blk} (h : (E.sub ids).h[i]? = some x) : ∃ b, ids[i]? = some b ∧ b ∈ ids ∧ ids.idxOf b = i ∧ (E.sub ids).h[i]? = (E.h[b]?).map (renBlk ids.idxOf) := by
 have hi : i < ids.length := by
  have := lt_of_some h
  simpa [Env.sub, heapOf] using this
 refine ⟨ids[i], by simp [hi], List.getElem_mem hi, idxOf_get hi hr.nd, ?_⟩
 have := sub_get (E := E) hr (List.getElem_mem hi)
 rw [idxOf_get hi hr.nd] at this
 exact this

/-- what is owned under another number -/
theorem ren_ownB {F G : Env} {f : Nat → Nat} {b i blk : Nat} (hw : G.w = F.w) (hh : G.h[i]? = (F.h[b]?).map (renBlk f)) (hρ : G.ρ i = F.ρ b) (h : OwnB G i blk) : OwnB F b blk := by
 rcases h with ⟨o, k1, k2⟩ | ⟨t, es, st, ob, eo, clock, k1, k2, k3, k4, k5⟩
 ·rw [hρ] at k1
  rw [hh] at k2
  exact .inl ⟨o, k1, live_ren.1 k2⟩
 ·rw [hh] at k1
  have k : F.h[b]? = some (.map t es st) := by
   cases hb : F.h[b]? with
   | none => rw [hb] at k1; cases k1
   | some y => rw [hb] at k1; cases y <;> first | exact k1 | cases k1
  exact .inr ⟨t, es, st, ob, eo, clock, k, k2, by rw [← hρ]; exact k3, by rw [← hw]; exact k4, k5⟩

theorem sub_ownB {roots ids : List Nat} (hr : Reach E.h roots ids) {i blk : Nat} (h : OwnB (E.sub ids) i blk) : ∃ b, b ∈ ids ∧ ids.idxOf b = i ∧ OwnB E b blk := by
 have hs : ∃ x, (E.sub ids).h[i]? = some x := by rcases h with ⟨_, _, ⟨_, _, h⟩ | ⟨_, _, h⟩⟩ | ⟨_, _, _, _, _, _, h, _⟩ <;> exact ⟨_, h⟩
 obtain ⟨x, hx⟩ := hs
 obtain ⟨b, h1, h2, h3, h4⟩ := sub_at hr hx
 have hρ : (E.sub ids).ρ i = E.ρ b := by
  show (ids[i]?).bind E.ρ = _
  rw [h1]; rfl
 exact ⟨b, h2, h3, ren_ownB (f := ids.idxOf) (F := E) (G := E.sub ids) rfl h4 hρ h⟩

theorem sub_inv (hI : Inv P E) {roots ids : List Nat} (hr : Reach E.h roots ids) : Inv P (E.sub ids) := by
 refine ⟨fun i => ?_, fun i j blk hi hj => ?_, hI.imlt, hI.tab⟩
 ·cases hx : (E.sub ids).h[i]? with
  | none => unfold BlkAt; rw [hx]; trivial
  | some x =>
   obtain ⟨b, h1, h2, h3, h4⟩ := sub_at hr hx
   have := (hI.blk b).ren (sub_rn hr) h2 (hr.ok b h2) (hr.cl b h2) (fun _ _ h => h)
   rw [h3] at this
   exact this
 ·obtain ⟨b, _, e1, e2⟩ := sub_ownB hr hi
  obtain ⟨c, _, f1, f2⟩ := sub_ownB hr hj
  have := hI.own b c blk e2 f2
  rw [← e1, ← f1, this]

theorem sub_owned {roots ids : List Nat} (hr : Reach E.h roots ids) {blk : Nat} (h : Owned (E.sub ids) blk) : ∃ b, b ∈ ids ∧ OwnB E b blk := by
 obtain ⟨i, h⟩ := h
 obtain ⟨b, h1, _, h2⟩ := sub_ownB hr h
 exact ⟨b, h1, h2⟩

theorem Compat.ren (f : Nat → Nat) : ∀ x : Option Blk, x ≠ some .res → Compat x (x.map (renBlk f))
 | none, _ => trivial
 | some .dead, _ => trivial
 | some .res, h => absurd rfl h
 | some (.arr _ _ _), _ => ⟨rfl, rfl, id⟩
 | some (.box _ _), _ => ⟨rfl, by simp⟩
 | some (.map _ _ _), _ => ⟨rfl, id⟩

/-- some blocks alone, the first k first -/
theorem sub_transK {roots ids : List Nat} (hr : Reach E.h roots ids) {k : Nat} (hk : ids.take k = List.range k) : TransK k E (E.sub ids) := by
 have hat : ∀ b, b < k → ids[b]? = some b := by
  intro b hb
  have : (ids.take k)[b]? = some b := by rw [hk]; simp [hb]
  rw [List.getElem?_take, if_pos hb] at this
  exact this
 have hmem : ∀ b, b < k → b ∈ ids ∧ ids.idxOf b = b := by
  intro b hb
  have h1 := hat b hb
  have hlt : b < ids.length := by
   rcases Nat.lt_or_ge b ids.length with h | h
   ·exact h
   ·rw [List.getElem?_eq_none h] at h1; cases h1
  have h2 : ids[b] = b := by rw [List.getElem?_eq_getElem hlt] at h1; exact Option.some.inj h1
  have h3 := idxOf_get hlt hr.nd
  rw [h2] at h3
  exact ⟨List.mem_of_getElem? h1, h3⟩
 refine ⟨fun b hb => ?_, fun b hb _ _ => ?_, fun _ h => h, Nat.le_refl _, rfl, rfl, rfl, fun _ _ _ => rfl, fun blk c T fz h => ⟨c, h, rfl⟩, fun blk _ ho => ?_, fun _ _ h => .inl h, ?_⟩
 ·obtain ⟨m1, m2⟩ := hmem b hb
  have := sub_get (E := E) hr m1
  rw [m2] at this
  rw [this]
  refine Compat.ren _ _ fun e => ?_
  obtain ⟨x, h1, h2, _⟩ := hr.some m1
  rw [e] at h1
  exact h2 (Option.some.inj h1).symm
 ·show (ids[b]?).bind E.ρ = E.ρ b
  rw [hat b hb]; rfl
 ·obtain ⟨b, _, h2⟩ := sub_owned hr ho
  exact ⟨b, h2⟩
 ·rcases Nat.eq_zero_or_pos k with h0 | h0
  ·omega
  ·obtain ⟨m1, _⟩ := hmem (k - 1) (by omega)
   obtain ⟨x, h1, _⟩ := hr.some m1
   have := lt_of_some h1
   omega

/-- a value's blocks are there -/
theorem rep_refs1 {x : PV} {v : Value} (h : Rep P E x v) : ∀ b ∈ refs1 x, b < E.h.length := by
 intro b hb
 cases h with
 | all b' n v hn hh =>
  obtain rfl : b = b' := by simpa [refs1] using hb
  unfold SlcAt at hh
  cases hx : E.h[b]? with
  | none => rw [hx] at hh; exact hh.elim
  | some y => exact lt_of_some hx
 | own b' off n v hh =>
  obtain rfl : b = b' := by simpa [refs1] using hb
  unfold SlcAt at hh
  cases hx : E.h[b]? with
  | none => rw [hx] at hh; exact hh.elim
  | some y => exact lt_of_some hx
 | ptr b' off v hh =>
  obtain rfl : b = b' := by simpa [refs1] using hb
  unfold PtrAt at hh
  cases hx : E.h[b]? with
  | none => rw [hx] at hh; exact hh.elim
  | some y => exact lt_of_some hx
 | aptr b' i off v hh =>
  obtain rfl : b = b' := by simpa [refs1] using hb
  unfold AptrAt at hh
  cases hx : E.h[b]? with
  | none => rw [hx] at hh; exact hh.elim
  | some y => exact lt_of_some hx
 | mp b' v hh =>
  obtain rfl : b = b' := by simpa [refs1] using hb
  unfold MapPtr at hh
  cases hx : E.h[b]? with
  | none => rw [hx] at hh; exact hh.elim
  | some y => exact lt_of_some hx
 | _ => simp [refs1] at hb

theorem rep_refs {x : PV} {v : Value} (h : Rep P E x v) : ∀ b ∈ refs x, b < E.h.length := by
 intro b hb
 have h0 := rep_refs1 h b
 cases h with
 | agg cs vs hl hh =>
  obtain ⟨c, hc, hbc⟩ := List.mem_flatMap.1 hb
  obtain ⟨i, hi, rfl⟩ := List.getElem_of_mem hc
  have := hh i hi
  rw [List.getD, List.getElem?_eq_getElem hi] at this
  exact rep_refs1 this b hbc
 | fn g cs vs hl hh =>
  obtain ⟨c, hc, hbc⟩ := List.mem_flatMap.1 hb
  obtain ⟨i, hi, rfl⟩ := List.getElem_of_mem hc
  have := hh i hi
  rw [List.getD, List.getElem?_eq_getElem hi] at this
  exact rep_refs1 this b hbc
 | iface t x v hh => exact rep_refs1 hh b hb
 | _ => exact h0 hb

theorem rep_refsR {x : PV} {v : Value} (h : Rep P E x v) : ∀ b ∈ refsR x, b < E.h.length := by
 intro b hb
 have h0 := rep_refs h b
 cases h with
 | tuple cs vs hl hh =>
  obtain ⟨c, hc, hbc⟩ := List.mem_flatMap.1 hb
  obtain ⟨i, hi, rfl⟩ := List.getElem_of_mem hc
  have := hh i hi
  rw [List.getD, List.getElem?_eq_getElem hi] at this
  exact rep_refs this b hbc
 | _ => exact h0 hb

end
end Go.Pu
