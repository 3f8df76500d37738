/- The pure machine, sixteenth part: behind a call. -/
import Derived.Test.YthmljoalohpafaaGreatDoorRO
set_option linter.unusedSimpArgs false
namespace Go.Pu

open Classical in
/-- the caller's data behind a call: the callee's blocks under the caller's numbers -/
noncomputable def Env.outOf (E Ec : Env) (hfin : Heap) (g : Nat → Nat) (n : Nat) : Env :=
  { w := Ec.w, h := hfin, ρ := fun b => if h : ∃ j, j < n ∧ g j = b then Ec.ρ (Classical.choose h) else E.ρ b, im := Ec.im }

section
variable {P : Program} {E Ec : Env}

theorem out_rho {hfin : Heap} {g : Nat → Nat} {n : Nat} (gi : ∀ i j, i < n → j < n → g i = g j → i = j) {j : Nat} (hj : j < n) : (E.outOf Ec hfin g n).ρ (g j) = Ec.ρ j := by
  have h : ∃ i, i < n ∧ g i = g j := ⟨j, hj, rfl⟩
  simp only [Env.outOf]
  rw [dif_pos h]
  have hs := Classical.choose_spec h
  rw [gi _ _ hs.1 hj hs.2]

theorem out_rho' {hfin : Heap} {g : Nat → Nat} {n : Nat} {b : Nat} (hb : ∀ j, j < n → g j ≠ b) : (E.outOf Ec hfin g n).ρ b = E.ρ b := by
  simp only [Env.outOf]
  rw [dif_neg]
  rintro ⟨j, h1, h2⟩
  exact hb j h1 h2

theorem callOut (hI : Inv P E) {roots ids : List Nat} (hr : Reach E.h roots ids) (hT : TransK ids.length (E.sub ids) Ec) (hIc : Inv P Ec) (hok : ∀ b : Nat, b < Ec.h.length → okBlk (Ec.h.getD b .res) = true)
    {hfin : Heap} {g : Nat → Nat} (F1 : ∀ j : Nat, j < Ec.h.length → hfin[g j]? = (Ec.h[j]?).map (renBlk g)) (F2 : ∀ b : Nat, (∀ j, j < Ec.h.length → g j ≠ b) → hfin[b]? = E.h[b]?)
    (gi : ∀ i j, i < Ec.h.length → j < Ec.h.length → g i = g j → i = j) (gk : ∀ j : Nat, j < ids.length → ids[j]? = some (g j)) (gf : ∀ j : Nat, ids.length ≤ j → j < Ec.h.length → E.h[g j]? = none ∨ E.h[g j]? = some .res) :
    ∃ E', E'.w = Ec.w ∧ E'.h = hfin ∧ Trans E E' ∧ Inv P E' ∧ Rn Ec E' g (· < Ec.h.length) := by
  have hk := hT.le
  have hR : Rn Ec (E.outOf Ec hfin g Ec.h.length) g (· < Ec.h.length) := ⟨rfl, fun _ h => h, F1, fun b hb => out_rho gi hb⟩
  -- a block of the caller's: handed over, new, or neither
  have cases3 : ∀ b : Nat, (∃ j, j < ids.length ∧ g j = b ∧ ids[j]? = some b) ∨ (∃ j, ids.length ≤ j ∧ j < Ec.h.length ∧ g j = b) ∨ (∀ j, j < Ec.h.length → g j ≠ b) := by
    intro b
    by_cases h : ∃ j, j < Ec.h.length ∧ g j = b
    · obtain ⟨j, h1, h2⟩ := h
      by_cases hj : j < ids.length
      · exact .inl ⟨j, hj, h2, by rw [gk j hj, h2]⟩
      · exact .inr (.inl ⟨j, by omega, h1, h2⟩)
    · exact .inr (.inr fun j h1 h2 => h ⟨j, h1, h2⟩)
  have sub_h : ∀ j b : Nat, ids[j]? = some b → (E.sub ids).h[j]? = (E.h[b]?).map (renBlk ids.idxOf) ∧ (E.sub ids).ρ j = E.ρ b ∧ b ∈ ids := by
    intro j b hj
    have hm := List.mem_of_getElem? hj
    have hjl : j < ids.length := by
      rcases Nat.lt_or_ge j ids.length with h | h
      · exact h
      · rw [List.getElem?_eq_none h] at hj; cases hj
    have e : ids[j] = b := by rw [List.getElem?_eq_getElem hjl] at hj; exact Option.some.inj hj
    have e2 := idxOf_get hjl hr.nd
    rw [e] at e2
    have := sub_get (E := E) hr hm
    rw [e2] at this
    refine ⟨this, ?_, hm⟩
    show (ids[j]?).bind E.ρ = _
    rw [hj]; rfl
  -- compatibility through the call
  have compat_id : ∀ j b : Nat, ids[j]? = some b → j < ids.length → Compat E.h[b]? ((Ec.h[j]?).map (renBlk g)) := by
    intro j b hj hjl
    obtain ⟨s1, s2, s3⟩ := sub_h j b hj
    have hc := hT.compat j hjl
    rw [s1] at hc
    obtain ⟨x, hx, hxr, _⟩ := hr.some s3
    rw [hx] at hc ⊢
    cases hy : Ec.h[j]? with
    | none => rw [hy] at hc; cases x <;> exact hc.elim
    | some y =>
      rw [hy] at hc
      cases x <;> cases y <;> first | trivial | exact hc.elim | exact hc | skip
      exact ⟨hc.1, by simpa [renBlk] using hc.2⟩
  have own_unpassed : ∀ (b blk o : Nat), (∀ j, j < Ec.h.length → g j ≠ b) → E.ρ b = some (blk, o) → live E.h[b]? → ¬ Owned (E.sub ids) blk := by
    intro b blk o hb hρ hl ho
    obtain ⟨c, o', c1, c2, c3⟩ := sub_owned hr ho
    have e := hI.inj b c blk o o' hρ c2 hl c3
    subst e
    obtain ⟨j, hj, hjb⟩ := List.getElem_of_mem c1
    have h1 := gk j hj
    rw [List.getElem?_eq_getElem hj, hjb] at h1
    exact hb j (by omega) (Option.some.inj h1).symm
  have hTr : Trans E (E.outOf Ec hfin g Ec.h.length) := by
    refine ⟨fun b => ?_, fun b hb hn hd => ?_, fun blk h => hT.im blk h, hT.size, hT.os, hT.tape, hT.output, fun blk hb ho => hT.frame blk hb fun h => ?_, hT.shape, fun blk hb ho => ?_, fun blk hb hm => ?_⟩
    · show Compat E.h[b]? hfin[b]?
      rcases cases3 b with ⟨j, h1, h2, h3⟩ | ⟨j, h1, h2, h3⟩ | h
      · rw [← h2, F1 j (by omega)]
        rw [h2]
        exact compat_id j b h3 h1
      · rcases gf j h1 h2 with h4 | h4
        · rw [h3] at h4
          rw [h4]; trivial
        · have h5 := F1 j h2
          rw [h3] at h4 h5
          rw [h4, h5, List.getElem?_eq_getElem h2]; trivial
      · rw [F2 b h]; exact Compat.refl _
    · rcases cases3 b with ⟨j, h1, h2, h3⟩ | ⟨j, h1, h2, h3⟩ | h
      · obtain ⟨s1, s2, s3⟩ := sub_h j b h3
        have e1 : (E.outOf Ec hfin g Ec.h.length).ρ b = Ec.ρ j := by rw [← h2]; exact out_rho gi (by omega)
        rw [e1, hT.rho j h1 (by rw [s1]; obtain ⟨x, hx, hxr, _⟩ := hr.some s3; rw [hx]; cases x <;> simp [renBlk] at hxr ⊢) (fun e => hd (by
          show hfin[b]? = _
          rw [← h2, F1 j (by omega), e]; rfl)), s2]
      · rcases gf j h1 h2 with h4 | h4
        · rw [h3, List.getElem?_eq_getElem hb] at h4; cases h4
        · rw [h3] at h4; exact absurd h4 hn
      · exact out_rho' h
    · obtain ⟨b, o, h1, h2, h3⟩ := sub_owned hr h
      exact ho ⟨b, o, h2, h3⟩
    · obtain ⟨b, o, hρ, hl⟩ := ho
      have hl' : live hfin[b]? := hl
      by_cases h : ∃ j, j < Ec.h.length ∧ g j = b
      · obtain ⟨j, h1, rfl⟩ := h
        rw [out_rho gi h1] at hρ
        rw [F1 j h1] at hl'
        obtain ⟨c, o', c1, c2, c3⟩ := sub_owned hr (hT.owned blk hb ⟨j, o, hρ, live_ren.1 hl'⟩)
        exact ⟨c, o', c2, c3⟩
      · have h' : ∀ j, j < Ec.h.length → g j ≠ b := fun j h1 h2 => h ⟨j, h1, h2⟩
        rw [out_rho' h'] at hρ
        rw [F2 b h'] at hl'
        exact ⟨b, o, hρ, hl'⟩
    · rcases hT.imold blk hb hm with h | h
      · exact .inl h
      · obtain ⟨c, o', c1, c2, c3⟩ := sub_owned hr h
        exact .inr ⟨c, o', c2, c3⟩
  refine ⟨E.outOf Ec hfin g Ec.h.length, rfl, rfl, hTr, ⟨fun b => ?_, fun b c blk o o' hb hc kb kc => ?_, fun blk h => hIc.imlt blk h, hIc.tab⟩, hR⟩
  · by_cases h : ∃ j, j < Ec.h.length ∧ g j = b
    · obtain ⟨j, h1, rfl⟩ := h
      refine (hIc.blk j).ren hR h1 (hok j h1) (fun c hc => ?_) (fun _ _ _ _ h => h)
      -- the cells' blocks are there
      have hB := hIc.blk j
      unfold boxRefs at hc
      split at hc
      · rename_i t cs hbx
        unfold BlkAt at hB
        rw [hbx] at hB
        obtain ⟨_, _, _, _, _, _, _, h4, _⟩ := hB
        obtain ⟨y, hy, hcy⟩ := List.mem_flatMap.1 hc
        obtain ⟨i, hi, rfl⟩ := List.getElem_of_mem hy
        have := h4 i hi
        rw [List.getD, List.getElem?_eq_getElem hi] at this
        exact rep_refs this c hcy
      · simp at hc
    · have h' : ∀ j, j < Ec.h.length → g j ≠ b := fun j h1 h2 => h ⟨j, h1, h2⟩
      refine (hI.blk b).keep hI hTr (F2 b h') (out_rho' h') (fun hx blk o hρ hlt => ?_) (fun hl blk o hρ hm => ?_)
      · by_cases hl : live E.h[b]?
        · exact hT.frame blk hlt (own_unpassed b blk o h' hρ hl)
        · rcases hx with ⟨t, es, l, hx⟩ | ⟨t, cs, hx⟩
          · cases l with
            | true => exact absurd (.inl ⟨t, es, hx⟩) hl
            | false =>
              have hB := hI.blk b
              unfold BlkAt at hB
              rw [hx] at hB
              simp only [hρ] at hB
              obtain ⟨_, _, _, _, _, _, _, _, _, h7⟩ := hB
              refine hT.frame blk hlt fun ho => ?_
              obtain ⟨c, o', c1, c2, c3⟩ := sub_owned hr ho
              exact hI.not_owned (h7 trivial) ⟨c, o', c2, c3⟩
          · exact absurd (.inr ⟨t, cs, hx⟩) hl
      · rcases hT.imold blk (hI.owned_lt ⟨b, o, hρ, hl⟩) hm with h | h
        · exact h
        · exact absurd h (own_unpassed b blk o h' hρ hl)
  · have own_lt : ∀ {b blk o : Nat}, E.ρ b = some (blk, o) → live E.h[b]? → blk < E.w.heap.size := fun h1 h2 => hI.owned_lt ⟨_, _, h1, h2⟩
    have mixed : ∀ {j c : Nat} {o o' : Nat}, j < Ec.h.length → Ec.ρ j = some (blk, o) → live Ec.h[j]? → (∀ j, j < Ec.h.length → g j ≠ c) → E.ρ c = some (blk, o') → live E.h[c]? → False := by
      intro j c o o' hj h1 h2 hc h3 h4
      exact own_unpassed c blk o' hc h3 h4 (hT.owned blk (own_lt h3 h4) ⟨j, o, h1, h2⟩)
    have kb' : live hfin[b]? := kb
    have kc' : live hfin[c]? := kc
    by_cases h1 : ∃ j, j < Ec.h.length ∧ g j = b <;> by_cases h2 : ∃ j, j < Ec.h.length ∧ g j = c
    · obtain ⟨i, i1, rfl⟩ := h1
      obtain ⟨j, j1, rfl⟩ := h2
      rw [out_rho gi i1] at hb
      rw [out_rho gi j1] at hc
      rw [F1 i i1] at kb'
      rw [F1 j j1] at kc'
      rw [hIc.inj i j blk o o' hb hc (live_ren.1 kb') (live_ren.1 kc')]
    · obtain ⟨i, i1, rfl⟩ := h1
      have h2' : ∀ j, j < Ec.h.length → g j ≠ c := fun j a1 a2 => h2 ⟨j, a1, a2⟩
      rw [out_rho gi i1] at hb
      rw [out_rho' h2'] at hc
      rw [F1 i i1] at kb'
      rw [F2 c h2'] at kc'
      exact (mixed i1 hb (live_ren.1 kb') h2' hc kc').elim
    · obtain ⟨j, j1, rfl⟩ := h2
      have h1' : ∀ j, j < Ec.h.length → g j ≠ b := fun j a1 a2 => h1 ⟨j, a1, a2⟩
      rw [out_rho gi j1] at hc
      rw [out_rho' h1'] at hb
      rw [F1 j j1] at kc'
      rw [F2 b h1'] at kb'
      exact (mixed j1 hc (live_ren.1 kc') h1' hb kb').elim
    · have h1' : ∀ j, j < Ec.h.length → g j ≠ b := fun j a1 a2 => h1 ⟨j, a1, a2⟩
      have h2' : ∀ j, j < Ec.h.length → g j ≠ c := fun j a1 a2 => h2 ⟨j, a1, a2⟩
      rw [out_rho' h1'] at hb
      rw [out_rho' h2'] at hc
      rw [F2 b h1'] at kb'
      rw [F2 c h2'] at kc'
      exact hI.inj b c blk o o' hb hc kb' kc'

end
end Go.Pu
