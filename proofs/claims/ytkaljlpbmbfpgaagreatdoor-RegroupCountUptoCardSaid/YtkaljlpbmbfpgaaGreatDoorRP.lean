/- The pure machine, sixteenth part: behind a call. -/
import Derived.Test.YtkaljlpbmbfpgaaGreatDoorRO
set_option linter.unusedSimpArgs false
namespace Go.Pu

open Classical in
/-- the caller's data behind a call: the callee's blocks under the caller's numbers -/
noncomputable def Env.outOf (E Ec : Env) (hfin : Heap) (g : Nat → Nat) (n : Nat) : Env :=
 { w := Ec.w, h := hfin, ρ := fun b => if h : ∃ j, j < n ∧ g j = b then Ec.ρ (Classical.choose h) else E.ρ b, im := Ec.im }

section
variable {P : Program} {E Ec : Env}

theorem out_rho {hfin : Heap} {g : Nat → Nat} {n : Nat} (gi : ∀ i j, i < n → j < n → g i = g j → i = j) {j : Nat} (hj : j < n) : (E.outOf Ec hfin g n).ρ (g j) = Ec.ρ j := by
 have h : ∃ i, i < n ∧ g i = g j := ⟨j, hj, rfl⟩
 simp only [Env.outOf]
 rw [dif_pos h]
 have hs := Classical.choose_spec h
 rw [gi _ _ hs.1 hj hs.2]

theorem out_rho' {hfin : Heap} {g : Nat → Nat} {n : Nat} {b : Nat} (hb : ∀ j, j < n → g j ≠ b) : (E.outOf Ec hfin g n).ρ b = E.ρ b := by
 simp only [Env.outOf]
 rw [dif_neg]
 rintro ⟨j, h1, h2⟩
 exact hb j h1 h2

theorem callOut (hI : Inv P E) {roots ids : List Nat} (hr : Reach E.h roots ids) (hT : TransK ids.length (E.sub ids) Ec) (hIc : Inv P Ec) (hok : ∀ b : Nat, b < Ec.h.length → okBlk (Ec.h.getD b .res) = true)
  {hfin : Heap} {g : Nat → Nat} (F1 : ∀ j : Nat, j < Ec.h.length → hfin[g j]? = (Ec.h[j]?).map (renBlk g)) (F2 : ∀ b : Nat, (∀ j, j < Ec.h.length → g j ≠ b) → hfin[b]? = E.h[b]?)
  (gi : ∀ i j, i < Ec.h.length → j < Ec.h.length → g i = g j → i = j) (gk : ∀ j : Nat, j < ids.length → ids[j]? = some (g j)) (gf : ∀ j : Nat, ids.length ≤ j → j < Ec.h.length → E.h[g j]? = none ∨ E.h[g j]? = some .res) :
  ∃ E', E'.w = Ec.w ∧ E'.h = hfin ∧ Trans E E' ∧ Inv P E' ∧ Rn Ec E' g (· < Ec.h.length) := by
 have hk := hT.le
 have hR : Rn Ec (E.outOf Ec hfin g Ec.h.length) g (· < Ec.h.length) := ⟨rfl, fun _ h => h, F1, fun b hb => out_rho gi hb⟩
 -- a block of the caller's: handed over, new, or neither
 have cases3 : ∀ b : Nat, (∃ j, j < ids.length ∧ g j = b ∧ ids[j]? = some b) ∨ (∃ j, ids.length ≤ j ∧ j < Ec.h.length ∧ g j = b) ∨ (∀ j, j < Ec.h.length → g j ≠ b) := by
  intro b
  by_cases h : ∃ j, j < Ec.h.length ∧ g j = b
  ·obtain ⟨j, h1, h2⟩ := h
   by_cases hj : j < ids.length
   ·exact .inl ⟨j, hj, h2, by rw [gk j hj, h2]⟩
   ·exact .inr (.inl ⟨j, by omega, h1, h2⟩)
  ·exact .inr (.inr fun j h1 h2 => h ⟨j, h1, h2⟩)
 have sub_h : ∀ j b : Nat, ids[j]? = some b → (E.sub ids).h[j]? = (E.h[b]?).map (renBlk ids.idxOf) ∧ (E.sub ids).ρ j = E.ρ b ∧ b ∈ ids := by
  intro j b hj
  have hm := List.mem_of_getElem? hj
  have hjl : j < ids.length := by
   rcases Nat.lt_or_ge j ids.length with h | h
   ·exact h
   ·rw [List.getElem?_eq_none h] at hj; cases hj
  have e : ids[j] = b := by rw [List.getElem?_eq_getElem hjl] at hj; exact Option.some.inj hj
  have e2 := idxOf_get hjl hr.nd
  rw [e] at e2
  have := sub_get (E := E) hr hm
  rw [e2] at this
  refine ⟨this, ?_, hm⟩
  show (ids[j]?).bind E.ρ = _
  rw [hj]; rfl
 -- compatibility through the call
 have compat_id : ∀ j b : Nat, ids[j]? = some b → j < ids.length → Compat E.h[b]? ((Ec.h[j]?).map (renBlk g)) := by
  intro j b hj hjl
  obtain ⟨s1, s2, s3⟩ := sub_h j b hj
  have hc := hT.compat j hjl
  rw [s1] at hc
  obtain ⟨x, hx, hxr, _⟩ := hr.some s3
  rw [hx] at hc ⊢
  cases hy : Ec.h[j]? with
  | none => rw [hy] at hc; cases x <;> exact hc.elim
  | some y =>
   rw [hy] at hc
   cases x <;> cases y <;> first | trivial | exact hc.elim | exact hc | skip
   exact ⟨hc.1, by simpa [renBlk] using hc.2⟩
 have own_unpassed : ∀ (b blk : Nat), (∀ j, j < Ec.h.length → g j ≠ b) → OwnB E b blk → ¬ Owned (E.sub ids) blk := by
  intro b blk hb hl ho
  obtain ⟨c, c1, c3⟩ := sub_owned hr ho
  have e := hI.own b c blk hl c3
  subst e
  obtain ⟨j, hj, hjb⟩ := List.getElem_of_mem c1
  have h1 := gk j hj
  rw [List.getElem?_eq_getElem hj, hjb] at h1
  exact hb j (by omega) (Option.some.inj h1).symm
 have hold_unpassed : ∀ (b blk : Nat), (∀ j, j < Ec.h.length → g j ≠ b) → Hold E b blk → ¬ Owned (E.sub ids) blk := by
  intro b blk hb hl ho
  obtain ⟨c, c1, c3⟩ := sub_owned hr ho
  refine hl.ne hI c3 ?_ rfl
  rintro rfl
  obtain ⟨j, hj, hjb⟩ := List.getElem_of_mem c1
  have h1 := gk j hj
  rw [List.getElem?_eq_getElem hj, hjb] at h1
  exact hb j (by omega) (Option.some.inj h1).symm
 have out_old : ∀ (b blk : Nat), (∀ j, j < Ec.h.length → g j ≠ b) → OwnB (E.outOf Ec hfin g Ec.h.length) b blk → OwnB E b blk := by
  intro b blk h' ho
  refine OwnB.keep (F2 b h') (out_rho' h') (fun ob hρ hb => ?_) ho
  have hlt := hI.mapOb_lt hρ hb
  refine hT.frame ob hlt fun hs => ?_
  obtain ⟨t, es, st, hb⟩ := hb
  have hB := hI.blk b
  unfold BlkAt at hB
  rw [hb] at hB
  obtain ⟨ob', eo, clock, r1, r2, _, _, _, _, _, _, r9⟩ := hB
  rw [hρ] at r1
  cases r1
  by_cases hst : st = .fz
  ·obtain ⟨c, _, c3⟩ := sub_owned hr hs
   exact hI.not_owned (r9 hst) ⟨c, c3⟩
  ·exact own_unpassed b ob h' (.inr ⟨t, es, st, ob, eo, clock, hb, hst, hρ, r2, .inl rfl⟩) hs
 have out_new : ∀ (j blk : Nat), j < Ec.h.length → OwnB (E.outOf Ec hfin g Ec.h.length) (g j) blk → OwnB Ec j blk :=
  fun j blk hj ho => ren_ownB (F := Ec) (G := E.outOf Ec hfin g Ec.h.length) (f := g) rfl (F1 j hj) (out_rho gi hj) ho
 have hTr : Trans E (E.outOf Ec hfin g Ec.h.length) := by
  refine ⟨fun b => ?_, fun b hb hn hd => ?_, fun blk h => hT.im blk h, hT.size, hT.os, hT.tape, hT.output, fun blk hb ho => hT.frame blk hb fun h => ?_, hT.shape, fun blk hb ho => ?_, fun blk hb hm => ?_⟩
  ·show Compat E.h[b]? hfin[b]?
   rcases cases3 b with ⟨j, h1, h2, h3⟩ | ⟨j, h1, h2, h3⟩ | h
   ·rw [← h2, F1 j (by omega)]
    rw [h2]
    exact compat_id j b h3 h1
   ·rcases gf j h1 h2 with h4 | h4
    ·rw [h3] at h4
     rw [h4]; trivial
    ·have h5 := F1 j h2
     rw [h3] at h4 h5
     rw [h4, h5, List.getElem?_eq_getElem h2]; trivial
   ·rw [F2 b h]; exact Compat.refl _
  ·rcases cases3 b with ⟨j, h1, h2, h3⟩ | ⟨j, h1, h2, h3⟩ | h
   ·obtain ⟨s1, s2, s3⟩ := sub_h j b h3
    have e1 : (E.outOf Ec hfin g Ec.h.length).ρ b = Ec.ρ j := by rw [← h2]; exact out_rho gi (by omega)
    rw [e1, hT.rho j h1 (by rw [s1]; obtain ⟨x, hx, hxr, _⟩ := hr.some s3; rw [hx]; cases x <;> simp [renBlk] at hxr ⊢) (fun e => hd (by
     show hfin[b]? = _
     rw [← h2, F1 j (by omega), e]; rfl)), s2]
   ·rcases gf j h1 h2 with h4 | h4
    ·rw [h3, List.getElem?_eq_getElem hb] at h4; cases h4
    ·rw [h3] at h4; exact absurd h4 hn
   ·exact out_rho' h
  ·obtain ⟨b, _, h2⟩ := sub_owned hr h
   exact ho ⟨b, h2⟩
  ·obtain ⟨b, hl⟩ := ho
   by_cases h : ∃ j, j < Ec.h.length ∧ g j = b
   ·obtain ⟨j, h1, rfl⟩ := h
    obtain ⟨c, _, c2⟩ := sub_owned hr (hT.owned blk hb ⟨j, out_new j blk h1 hl⟩)
    exact ⟨c, c2⟩
   ·exact ⟨b, out_old b blk (fun j h1 h2 => h ⟨j, h1, h2⟩) hl⟩
  ·rcases hT.imold blk hb hm with h | h
   ·exact .inl h
   ·obtain ⟨c, _, c2⟩ := sub_owned hr h
    exact .inr ⟨c, c2⟩
 refine ⟨E.outOf Ec hfin g Ec.h.length, rfl, rfl, hTr, ⟨fun b => ?_, fun b c blk kb kc => ?_, fun blk h => hIc.imlt blk h, hIc.tab⟩, hR⟩
 ·by_cases h : ∃ j, j < Ec.h.length ∧ g j = b
  ·obtain ⟨j, h1, rfl⟩ := h
   refine (hIc.blk j).ren hR h1 (hok j h1) (fun c hc => ?_) (fun _ _ h => h)
   -- the cells' blocks are there
   have hB := hIc.blk j
   unfold boxRefs at hc
   split at hc
   ·rename_i t cs hbx
    unfold BlkAt at hB
    rw [hbx] at hB
    obtain ⟨_, _, _, _, _, _, _, h4, _⟩ := hB
    obtain ⟨y, hy, hcy⟩ := List.mem_flatMap.1 hc
    obtain ⟨i, hi, rfl⟩ := List.getElem_of_mem hy
    have := h4 i hi
    rw [List.getD, List.getElem?_eq_getElem hi] at this
    exact rep_refs this c hcy
   ·simp at hc
  ·have h' : ∀ j, j < Ec.h.length → g j ≠ b := fun j h1 h2 => h ⟨j, h1, h2⟩
   refine (hI.blk b).keep hI hTr (F2 b h') (out_rho' h') (fun blk hx hlt => hT.frame blk hlt (hold_unpassed b blk h' hx)) (fun blk ho hm => ?_)
   rcases hT.imold blk (hI.owned_lt ⟨b, ho⟩) hm with h | h
   ·exact h
   ·exact absurd h (own_unpassed b blk h' ho)
 ·have mixed : ∀ {j c : Nat}, j < Ec.h.length → OwnB Ec j blk → (∀ j, j < Ec.h.length → g j ≠ c) → OwnB E c blk → False := by
   intro j c hj h1 hc h3
   exact own_unpassed c blk hc h3 (hT.owned blk (hI.owned_lt ⟨c, h3⟩) ⟨j, h1⟩)
  by_cases h1 : ∃ j, j < Ec.h.length ∧ g j = b <;> by_cases h2 : ∃ j, j < Ec.h.length ∧ g j = c
  ·obtain ⟨i, i1, rfl⟩ := h1
   obtain ⟨j, j1, rfl⟩ := h2
   rw [hIc.own i j blk (out_new i blk i1 kb) (out_new j blk j1 kc)]
  ·obtain ⟨i, i1, rfl⟩ := h1
   have h2' : ∀ j, j < Ec.h.length → g j ≠ c := fun j a1 a2 => h2 ⟨j, a1, a2⟩
   exact (mixed i1 (out_new i blk i1 kb) h2' (out_old c blk h2' kc)).elim
  ·obtain ⟨j, j1, rfl⟩ := h2
   have h1' : ∀ j, j < Ec.h.length → g j ≠ b := fun j a1 a2 => h1 ⟨j, a1, a2⟩
   exact (mixed j1 (out_new j blk j1 kc) h1' (out_old b blk h1' kb)).elim
  ·have h1' : ∀ j, j < Ec.h.length → g j ≠ b := fun j a1 a2 => h1 ⟨j, a1, a2⟩
   have h2' : ∀ j, j < Ec.h.length → g j ≠ c := fun j a1 a2 => h2 ⟨j, a1, a2⟩
   exact hI.own b c blk (out_old b blk h1' kb) (out_old c blk h2' kc)

end
end Go.Pu
