/- The pure machine, twenty-eighth part: code. -/
import Derived.Test.YtkaljlpbmbfpgaaGreatDoorSA
import Derived.Scope
import Derived.Deep.LoopGhost
set_option linter.unusedSimpArgs false
set_option linter.unusedVariables false
namespace Go.Pu

section
variable {P : Program} {C : CallF} {M : FuncId → Bool} {ops : Array Oper} {R : Type}

/-- operations one behind the other -/
theorem runOps_wp (hN : Named P) (hC : CallsOK P C) {kk : Nat} {E0 : Env} {k : List PV → Heap → Option R} {r : R} {Q : Exit → Act → World → Prop} (hQ : ∀ a w σ, Sim P kk E0 σ a w → k σ.1 σ.2 = some r → Q .normal a w) :
  ∀ (rest : List Oper) (k0 : Nat) (ts : List PV) (h : Heap) (a : Act) (w : World), (∀ t : Nat, rest[t]? = ops[k0 + t]?) → runOps P C M ops rest ts h k = some r → Sim P kk E0 (ts, h) a w →
   wpOps P ops Q (List.range' k0 rest.length) a w
 | [], k0, ts, h, a, w, hr, hk, hS => hQ a w (ts, h) hS hk
 | o :: rest, k0, ts, h, a, w, hr, hk, hS => by
  have h0 : ops[k0]? = some o := by simpa using (hr 0).symm
  have hr' : ∀ t : Nat, rest[t]? = ops[k0 + 1 + t]? := fun t => by have := hr (t + 1); simpa [Nat.add_assoc, Nat.add_comm 1 t] using this
  rw [List.length_cons, List.range'_succ]
  unfold wpOps
  rw [h0]
  dsimp only
  have go : ∀ ts0 : List PV, ts0 = ts → Region.wanted o (yielded ops a.tmps) = true → ((doOp P C M none ts0 h o.op).bind fun r => runOps P C M ops rest (put ts0 o.dst r.1) r.2 k) = some r →
    if Region.wanted o (yielded ops a.tmps) = true then o.wp P a w (wpOps P ops Q (List.range' (k0 + 1) rest.length)) Q ∨ (o.asks P a w ∧ LetsOut Q) else wpOps P ops Q (List.range' (k0 + 1) rest.length) (a.put o.dst undef) w := by
   intro ts0 e hw hk2
   rw [e] at hk2
   rw [if_pos hw]
   refine .inl ?_
   obtain ⟨E, rfl, hh, hK, hI, hT, hD⟩ := hS
   dsimp only at hh hT
   subst hh
   cases hd : doOp P C M none ts E.h o.op with
   | none => rw [hd] at hk2; cases hk2
   | some q =>
    obtain ⟨q1, q2⟩ := q
    rw [hd] at hk2
    refine Oper.wp_mono (fun a' w' hp => ?_) (doOp_wp hN hC hd hI hT trivial)
    obtain ⟨v, E', rfl, rfl, rfl, hTr, hI', hrp⟩ := hp
    exact runOps_wp hN hC hQ rest (k0 + 1) _ _ _ _ hr' hk2 ⟨E', rfl, rfl, hK.trans (hTr.toK hK.le), hI', (hT.mono hI hTr).put o.dst hrp, by rw [put_defers']; exact hD⟩
  have skip : ∀ ts0 : List PV, ts0 = ts → Region.wanted o (yielded ops a.tmps) = false → runOps P C M ops rest (put ts0 o.dst (.tuple [])) h k = some r →
    if Region.wanted o (yielded ops a.tmps) = true then o.wp P a w (wpOps P ops Q (List.range' (k0 + 1) rest.length)) Q ∨ (o.asks P a w ∧ LetsOut Q) else wpOps P ops Q (List.range' (k0 + 1) rest.length) (a.put o.dst undef) w := by
   intro ts0 e hw hk2
   rw [e] at hk2
   rw [if_neg (by simp [hw])]
   obtain ⟨E, e1, e2, hK, hI, hT, hD⟩ := hS
   exact runOps_wp hN hC hQ rest (k0 + 1) _ _ _ _ hr' hk2 ⟨E, e1, e2, hK, hI, hT.put o.dst rep_undef, by rw [put_defers']; exact hD⟩
  unfold runOps at hk
  dsimp only at hk
  split at hk
  ·rename_i hg
   exact go ts rfl (by simp [Region.wanted, hg]) hk
  ·rename_i j want hg
   split at hk
   ·cases hk
   ·rename_i d hd
    split at hk
    ·rename_i b hb
     have hw : Region.wanted o (yielded ops a.tmps) = decide (b = want) := by
      obtain ⟨E, e1, e2, hK, hI, hT, hD⟩ := hS
      have hlt : d < ts.length := by
       rcases Nat.lt_or_ge d ts.length with hh | hh
       ·exact hh
       ·rw [List.getD, List.getElem?_eq_none hh] at hb; cases hb
      have hv := hT.rep d hlt
      dsimp only at hv
      rw [hb] at hv
      have hv := hv.bool_inv
      have hy : yielded ops a.tmps j = some b := by
       have hlt2 : d < a.tmps.size := by rw [← hT.len]; exact hlt
       have : a.tmps[d]? = some (.bool b) := by
        rw [Array.getElem?_eq_getElem hlt2]
        simpa [Array.getD, hlt2] using hv
       simp [yielded, hd, this]
      simp only [Region.wanted, hg, hy]
      cases b <;> cases want <;> rfl
     split at hk
     ·rename_i hbt
      subst hbt
      have hset : ts.set d (.bool true) = ts := set_same hb (by simp)
      split at hk
      ·rename_i hwt
       exact go _ hset (by rw [hw]; cases want <;> simp_all) hk
      ·rename_i hwt
       exact skip _ hset (by rw [hw]; cases want <;> simp_all) hk
     ·rename_i hbt
      have hbf : b = false := by simpa using hbt
      subst hbf
      have hset : ts.set d (.bool false) = ts := set_same hb (by simp)
      split at hk
      ·rename_i hwt
       exact skip _ hset (by rw [hw]; cases want <;> simp_all) hk
      ·rename_i hwt
       exact go _ hset (by rw [hw]; cases want <;> simp_all) hk
    ·rename_i hb
     obtain ⟨E, e1, e2, hK, hI, hT, hD⟩ := id hS
     exact skip ts rfl (undef_unwanted hT hd hb hg) hk
    ·cases hk

theorem setRow_self {w : World} {g : Nat} {c : Array Value} {T : TypeId} (h : w.heap[g]? = some (.cells c T (0, 0))) {p : Nat} : w.setRow g (wr c p []) = w := by
 have hc : wr c p [] = c := by unfold wr; simp
 rw [hc]
 have hh : (w.setRow g c).heap = w.heap := by
  apply Array.ext
  ·simp [World.setRow]
  ·intro i h1 h2
   by_cases e : i = g
   ·subst e
    have := setRow_heap w i c c T (0, 0) h
    rw [Array.getElem?_eq_getElem h1] at this
    rw [Array.getElem?_eq_getElem h2] at h
    rw [Option.some.inj this, Option.some.inj h]
   ·have := setRow_other w g i c e
    rw [Array.getElem?_eq_getElem h1, Array.getElem?_eq_getElem h2] at this
    exact Option.some.inj this
 calc w.setRow g c = { w with heap := (w.setRow g c).heap } := rfl
  _ = { w with heap := w.heap } := by rw [hh]
  _ = w := rfl

/-- a part of a row of one's own becomes a row -/
theorem compact_env {E : Env} (hI : Inv P E) {b off n : Nat} {t : TypeId} {es : List (List PV)} (hb : E.h[b]? = some (.arr t es true)) {v : Value} (hx : Rep P E (.own b off n) v) :
  Step P E (E.h.set b .dead ++ [.arr t ((es.drop off).take n) true]) E.w fun E' => Rep P E' (.all E.h.length) v := by
 cases hx with
 | own _ _ _ _ hs =>
  unfold SlcAt at hs
  rw [hb] at hs
  obtain ⟨hle, sz, A, cap, h1, rfl, hcap, h2⟩ := hs
  by_cases h0 : cap = 0
  ·have hn : n = 0 := by omega
   subst hn
   subst h0
   obtain ⟨E1, a1, a2, a3, a4⟩ := kill_env hI hb
   obtain ⟨E', b1, b2, b3, b4, b5⟩ := add_none a4 (al := none) trivial t h1 A
   have hl : E1.h.length = E.h.length := by rw [a2]; simp
   refine ⟨E', by rw [b1, a1], by rw [b2]; show E1.h ++ [.arr t [] true] = _; rw [a2]; simp, a3.trans b3, b4, ?_⟩
   have : (allocAt none E1.h (.arr t [] true)).1 = E.h.length := hl
   rw [this] at b5
   exact b5
  ·rcases h2 with h2 | ⟨blk, o, c, T, hρ, hA, hw, hc⟩
   ·exact absurd h2 h0
   ·have hN : News P E t sz [] (.slice none 0 0) #[] :=
     ⟨fun w => rfl, fun w _ => by simp [Builtin.firstCells], by simp, fun i hi => by simp at hi, fun i j hi => by simp at hi⟩
    obtain ⟨E', b1, b2, b3, b4, b5⟩ := append_room hI (al := none) trivial h1 hb hle hN hρ hw hc (by simpa using hcap)
    refine ⟨E', by rw [b1]; exact setRow_self hw, by rw [b2]; show E.h.set b .dead ++ [_] = _; rw [List.append_nil], b3, b4, ?_⟩
    have e1 : (allocAt none (E.h.set b .dead) (.arr t (((es.drop off).take n) ++ []) true)).1 = E.h.length := by show (E.h.set b .dead).length = _; simp
    rw [e1] at b5
    subst hA
    exact b5

/-- a map that is written no more -/
theorem frzMap_env {E : Env} (hI : Inv P E) (x : PV) : ∃ E', E'.w = E.w ∧ E'.h = frzMap E.h x ∧ Trans E E' ∧ Inv P E' := by
 unfold frzMap
 split
 ·rename_i b
  split
  ·rename_i t es hb
   have hB := hI.blk b
   unfold BlkAt at hB
   rw [hb] at hB
   obtain ⟨ob, eo, clock, r1, r2, r3, r4, r5, r6, r7, r8, r9⟩ := hB
   have hlt := lt_of_some hb
   have mine : ∀ k, MapHas E b k → k < E.w.heap.size := fun k h => hI.mapHas_lt h
   let E' : Env := { w := E.w, h := E.h.set b (.map t es .fz), ρ := E.ρ, im := fun k => E.im k ∨ MapHas E b k }
   have hsame : (E.h.set b (.map t es .fz))[b]? = some (.map t es .fz) := by simp [hlt]
   have hoth : ∀ i : Nat, i ≠ b → (E.h.set b (.map t es .fz))[i]? = E.h[i]? := fun i hi => by rw [List.getElem?_set, if_neg (Ne.symm hi)]
   have conv : ∀ i k, OwnB E' i k → OwnB E i k ∧ i ≠ b := by
    intro i k h
    by_cases e : i = b
    ·subst e
     have h1 : E'.h[i]? = some (.map t es .fz) := hsame
     rcases h with ⟨o, _, ⟨_, _, hh⟩ | ⟨_, _, hh⟩⟩ | ⟨_, _, _, _, _, _, hh, hz, _⟩
     ·rw [h1] at hh; cases hh
     ·rw [h1] at hh; cases hh
     ·rw [h1] at hh; cases hh; exact absurd rfl hz
    ·exact ⟨OwnB.keep (E := E) (E' := E') (hoth i e) rfl (fun _ _ _ => rfl) h, e⟩
   have hT : Trans E E' := by
    refine ⟨fun i => ?_, fun _ _ _ _ => rfl, fun _ h => .inl h, Nat.le_refl _, rfl, rfl, rfl, fun _ _ _ => rfl, fun k c T fz h => ⟨c, h, rfl⟩, fun k _ ⟨i, hk⟩ => ⟨i, (conv i k hk).1⟩, fun k _ hm => ?_⟩
    ·show Compat E.h[i]? (E.h.set b (.map t es .fz))[i]?
     by_cases e : i = b
     ·subst e; rw [hsame, hb]; exact ⟨rfl, fun _ => rfl⟩
     ·rw [hoth i e]; exact Compat.refl _
    ·rcases hm with hm | hm
     ·exact .inl hm
     ·exact .inr ⟨b, .inr hm⟩
   refine ⟨E', rfl, rfl, hT, ⟨fun i => ?_, fun i j k hi hj => hI.own i j k (conv i k hi).1 (conv j k hj).1, fun k hm => ?_, hI.tabT hT⟩⟩
   ·by_cases e : i = b
    ·subst e
     unfold BlkAt
     rw [show E'.h[i]? = some (.map t es .fz) from hsame]
     refine ⟨ob, eo, clock, r1, r2, r3, r4, fun q hq => ?_, r6, fun _ _ _ _ _ h => h.elim, fun h => absurd rfl h, fun _ => .inr ⟨t, es, .live, ob, eo, clock, hb, by simp, r1, r2, .inl rfl⟩⟩
     obtain ⟨k, x, e1, e2, e3⟩ := r5 q hq
     refine ⟨k, x, e1, e2, fun _ => ?_⟩
     have h3 := e3 (.inl trivial)
     split
     ·rename_i u hu
      rw [hu] at h3
      obtain ⟨rows, q1, sz, A, cap, p1, p2, p3, p4, p5⟩ := h3
      refine ⟨rows, q1, sz, A, cap, p1, p2, p3, p4, ?_⟩
      rcases p5 with p5 | ⟨blk, o, c, T, y1, y2, y3, y4, y5, y6⟩
      ·exact .inl p5
      ·by_cases h0 : cap = 0
       ·exact .inl ⟨h0, fun _ => h0⟩
       ·exact .inr ⟨blk, o, c, T, y1, y2, y3, fun i j hi hj => (y4 i j hi hj).mono hI hT, fun h => absurd rfl h, fun _ => .inr ⟨t, es, .live, ob, eo, clock, hb, by simp, r1, r2, .inr ⟨q, hq, trivial, o, rows.length, cap, by rw [p2, y1], h0⟩⟩⟩
     ·rename_i hu
      split at h3
      ·rename_i u hu2; exact absurd hu2 (hu u)
      ·exact h3
    ·refine (hI.blk i).keep hI hT (hoth i e) rfl (fun _ _ _ => rfl) (fun k ho hm => ?_)
     rcases hm with hm | hm
     ·exact hm
     ·exact absurd (hI.own i b k ho (.inr hm)) e
   ·rcases hm with hm | hm
    ·exact hI.imlt k hm
    ·exact mine k hm
  ·exact ⟨E, rfl, rfl, Trans.refl E, hI⟩
 ·exact ⟨E, rfl, rfl, Trans.refl E, hI⟩

theorem frzMap_box {h : Heap} {x : PV} {b : Nat} {t : TypeId} {cs : List PV} (hb : h[b]? = some (.box t cs)) : (frzMap h x)[b]? = some (.box t cs) := by
 unfold frzMap
 split
 ·rename_i b'
  split
  ·rename_i t' es' e
   rw [List.getElem?_set]
   split
   ·rename_i e2; subst e2; rw [e] at hb; cases hb
   ·exact hb
  ·exact hb
 ·exact hb

theorem fixCell_env {E : Env} (hI : Inv P E) {c : Nat} {x y : PV} {h1 : Heap} (h : fixCell P c x E.h = some (y, h1)) {v : Value} (hx : Rep P E x v) :
  Step P E h1 E.w fun E' => Rep P E' y v := by
 unfold fixCell at h
 split at h
 ·cases h; exact ⟨E, rfl, rfl, Trans.refl E, hI, hx⟩
 split at h
 ·cases h
  obtain ⟨E', a1, a2, a3, a4⟩ := frzMap_env hI x
  exact ⟨E', a1, a2, a3, a4, hx.mono hI a3⟩
 split at h
 ·split at h
  ·split at h
   ·rename_i hb
    cases h
    exact compact_env hI hb hx
   ·cases h; exact ⟨E, rfl, rfl, Trans.refl E, hI, hx⟩
  ·split at h
   ·rename_i hb
    cases h
    cases hx with
    | all _ n _ hn hs =>
     have := compact_env hI hb (.own _ 0 n _ hs)
     rw [hn _ _ _ hb, List.drop_zero, List.take_length] at this
     exact this
   ·cases h; exact ⟨E, rfl, rfl, Trans.refl E, hI, hx⟩
  ·split at h
   ·cases h
   ·rename_i he
    cases h
    cases hs : elSize P ((c - 500000) / 2) with
    | none => exact absurd hs he
    | some sz =>
     cases hx
     obtain ⟨E', a1, a2, a3, a4, a5⟩ := add_none hI (al := none) trivial ((c - 500000) / 2) hs none
     exact ⟨E', a1, a2, a3, a4, a5⟩
  ·cases h; exact ⟨E, rfl, rfl, Trans.refl E, hI, hx⟩
 ·split at h
  ·split at h
   ·split at h
    ·cases h
    ·rename_i he
     cases h
     cases hs : elSize P (c / 2) with
     | none => exact absurd hs he
     | some sz =>
      cases hx
      obtain ⟨E', a1, a2, a3, a4, a5⟩ := add_none hI (al := none) trivial (c / 2) hs none
      exact ⟨E', a1, a2, a3, a4, a5⟩
   ·cases h; exact ⟨E, rfl, rfl, Trans.refl E, hI, hx⟩
  ·obtain ⟨E', a1, a2, a3, a4, a5⟩ := purCell_env hI h hx
   exact ⟨E', a1, a2, a3, a4, a5.1⟩

theorem freeze_box {h : Heap} {b b' : Nat} {t : TypeId} {cs : List PV} (hb : h[b]? = some (.box t cs)) : (freeze h b')[b]? = some (.box t cs) := by
 unfold freeze
 split
 ·rename_i t' es l e
  rw [List.getElem?_set]
  split
  ·rename_i e2; subst e2; rw [e] at hb; cases hb
  ·exact hb
 ·exact hb

theorem fixCell_box {c : Nat} {x y : PV} {h h1 : Heap} (hf : fixCell P c x h = some (y, h1)) {b : Nat} {t : TypeId} {cs : List PV} (hb : h[b]? = some (.box t cs)) : h1[b]? = some (.box t cs) := by
 unfold fixCell at hf
 split at hf
 ·cases hf; exact hb
 split at hf
 ·cases hf; exact frzMap_box hb
 split at hf
 ·split at hf
  ·split at hf
   ·rename_i b0 _ _ _ _ _ hb0
    cases hf
    rw [List.getElem?_append_left (by rw [List.length_set]; exact lt_of_some hb), List.getElem?_set]
    split
    ·rename_i e2; subst e2; rw [hb0] at hb; cases hb
    ·exact hb
   ·cases hf; exact hb
  ·split at hf
   ·rename_i b0 _ _ _ hb0
    cases hf
    rw [List.getElem?_append_left (by rw [List.length_set]; exact lt_of_some hb), List.getElem?_set]
    split
    ·rename_i e2; subst e2; rw [hb0] at hb; cases hb
    ·exact hb
   ·cases hf; exact hb
  ·split at hf
   ·cases hf
   ·cases hf
    rw [List.getElem?_append_left (lt_of_some hb)]; exact hb
  ·cases hf; exact hb
 ·split at hf
  ·split at hf
   ·split at hf
    ·cases hf
    ·cases hf
     rw [List.getElem?_append_left (lt_of_some hb)]; exact hb
   ·cases hf; exact hb
  ·unfold purCell at hf
   split at hf
   ·cases hf; exact hb
   ·split at hf
    ·split at hf
     ·cases hf; exact freeze_box hb
     ·cases hf
    ·cases hf
   ·split at hf
    ·split at hf
     ·cases hf; exact freeze_box hb
     ·cases hf
    ·cases hf
   ·split at hf
    ·cases hf; exact hb
    ·cases hf

theorem set_box {E : Env} (hI : Inv P E) {b : Nat} {t : TypeId} {cs cs' : List PV} (hb : E.h[b]? = some (.box t cs)) (hl : cs'.length = cs.length)
  (hr : ∀ blk o c T, E.ρ b = some (blk, o) → E.w.heap[blk]? = some (.cells c T (0, 0)) → ∀ j, j < cs.length → Rep P E (cs'.getD j .top) (c.getD (o + j) undef)) :
  ∃ E', E'.w = E.w ∧ E'.h = E.h.set b (.box t cs') ∧ Trans E E' ∧ Inv P E' := by
 have hlt := lt_of_some hb
 let E' : Env := { w := E.w, h := E.h.set b (.box t cs'), ρ := E.ρ, im := E.im }
 have hsame : (E.h.set b (.box t cs'))[b]? = some (.box t cs') := by simp [hlt]
 have hoth : ∀ i, i ≠ b → (E.h.set b (.box t cs'))[i]? = E.h[i]? := fun i hi => by rw [List.getElem?_set, if_neg (Ne.symm hi)]
 have conv : ∀ i k, OwnB E' i k → OwnB E i k := by
  intro i k h
  by_cases e : i = b
  ·subst e
   rcases h with ⟨o, hρ, _⟩ | ⟨_, _, _, _, _, _, hh, _⟩
   ·exact .inl ⟨o, hρ, .inr ⟨t, cs, hb⟩⟩
   ·rw [show E'.h[i]? = some (.box t cs') from hsame] at hh; cases hh
  ·exact OwnB.keep (E := E) (E' := E') (hoth i e) rfl (fun _ _ _ => rfl) h
 have hT : Trans E E' := by
  refine ⟨fun i => ?_, fun _ _ _ _ => rfl, fun _ h => h, Nat.le_refl _, rfl, rfl, rfl, fun _ _ _ => rfl, fun blk c T fz h => ⟨c, h, rfl⟩, fun blk _ ⟨i, h⟩ => ⟨i, conv i blk h⟩, fun blk _ hm => .inl hm⟩
  show Compat E.h[i]? (E.h.set b (.box t cs'))[i]?
  by_cases e : i = b
  ·subst e; rw [hsame, hb]; exact ⟨rfl, hl⟩
  ·rw [hoth i e]; exact Compat.refl _
 refine ⟨E', rfl, rfl, hT, ⟨fun i => ?_, fun i j blk hi hj => hI.own i j blk (conv i blk hi) (conv j blk hj), hI.imlt, hI.tabT hT⟩⟩
 ·by_cases e : i = b
  ·subst e
   have hq := hI.blk i
   unfold BlkAt at hq ⊢
   rw [hb] at hq
   rw [show E'.h[i]? = some (.box t cs') from hsame]
   obtain ⟨blk, o, c, T, q1, q2, q3, q4, q5⟩ := hq
   exact ⟨blk, o, c, T, q1, q2, by rw [hl]; exact q3, fun j hj => (hr blk o c T q1 q2 j (by rw [← hl]; exact hj)).mono hI hT, q5⟩
  ·exact BlkAt.keep hI hT (hoth i e) rfl (fun _ _ _ => rfl) (fun _ _ h => h) (hI.blk i)

theorem fixAt_sim {kk : Nat} {E0 : Env} {e : Nat} {ts : List PV} {h : Heap} {c : List PV × Heap} {a : Act} {w : World} (hg : fixAt P e ts h = some c) (hS : Sim P kk E0 (ts, h) a w) : Sim P kk E0 c a w := by
 unfold fixAt at hg
 dsimp only at hg
 generalize e % 1000000 = p at *
 generalize e / 1000000 % 1000000 = q at *
 generalize e / 1000000000000 = o at *
 split at hg
 ·cases hg; exact hS
 ·obtain ⟨E, rfl, hh, hK, hI, hT, hD⟩ := hS
  dsimp only at hh hT
  subst hh
  have setT : ∀ {E' : Env} {y : PV}, Trans E E' → (∀ i, i = p → i < ts.length → Rep P E' y (a.tmps.getD i undef)) → RepT P E' (ts.set p y) a := by
   intro E' y hT' hy
   refine ⟨by simp [hT.len], fun i hi => ?_⟩
   have hi' : i < ts.length := by simpa using hi
   by_cases e : i = p
   ·subst e
    have : (ts.set i y).getD i .top = y := by simp [List.getD, hi']
    rw [this]; exact hy i rfl hi'
   ·have : (ts.set p y).getD i .top = ts.getD i .top := by simp [List.getD, List.getElem?_set_ne (Ne.symm e)]
    rw [this]; exact (hT.rep i hi').mono hI hT'
  have pl : ∀ z, ts.getD p .top = z → z ≠ .top → p < ts.length := by
   intro z hz hne
   rcases Nat.lt_or_ge p ts.length with hlt | hge
   ·exact hlt
   ·exfalso; apply hne; rw [← hz, List.getD, List.getElem?_eq_none hge]; rfl
  split at hg
  ·split at hg
   ·rename_i hp
    cases hf : fixCell P q (ts.getD p .top) E.h with
    | none => rw [hf] at hg; cases hg
    | some r =>
     rw [hf] at hg
     cases hg
     obtain ⟨E', e1, e2, e3, e4, e5⟩ := fixCell_env hI hf (hT.rep p hp)
     exact ⟨E', e1, e2, hK.trans (e3.toK hK.le), e4, setT e3 (fun i hi _ => by subst hi; exact e5), hD⟩
   ·cases hg
  ·split at hg
   ·rename_i cs hcs
    split at hg
    ·rename_i ho
     have hp := pl _ hcs (by simp)
     have hr := hT.rep p hp
     rw [hcs] at hr
     generalize hv : a.tmps.getD p undef = v at hr
     cases hr with
     | agg _ vs hl hc =>
      cases hf : fixCell P q (cs.getD (o - 1) .top) E.h with
      | none => rw [hf] at hg; cases hg
      | some r =>
       rw [hf] at hg
       cases hg
       obtain ⟨E', e1, e2, e3, e4, e5⟩ := fixCell_env hI hf (hc _ ho)
       refine ⟨E', e1, e2, hK.trans (e3.toK hK.le), e4, setT e3 (fun i hi _ => ?_), hD⟩
       subst hi
       rw [hv]
       refine .agg _ _ (by simpa using hl) fun j hj => ?_
       have hj' : j < cs.length := by simpa using hj
       by_cases ej : j = o - 1
       ·subst ej
        have : (cs.set (o - 1) r.1).getD (o - 1) .top = r.1 := by simp [List.getD, hj']
        rw [this]; exact e5
       ·have : (cs.set (o - 1) r.1).getD j .top = cs.getD j .top := by simp [List.getD, List.getElem?_set_ne (Ne.symm ej)]
        rw [this]; exact (hc j hj').mono hI e3
    ·cases hg
   ·rename_i b hbp
    split at hg
    ·rename_i t cs hb
     split at hg
     ·rename_i ho
      cases hf : fixCell P q (cs.getD (o - 1) .top) E.h with
      | none => rw [hf] at hg; cases hg
      | some r =>
       rw [hf] at hg
       cases hg
       have hq := hI.blk b
       unfold BlkAt at hq
       rw [hb] at hq
       obtain ⟨blk, o', c', T, q1, q2, q3, q4, q5⟩ := hq
       obtain ⟨E1, e1, e2, e3, e4, e5⟩ := fixCell_env hI hf (q4 _ ho)
       have hb1 : E1.h[b]? = some (.box t cs) := by rw [e2]; exact fixCell_box hf hb
       have hρ : E1.ρ b = E.ρ b := e3.rho b (lt_of_some hb) (by rw [hb]; simp) (by rw [hb1]; simp)
       obtain ⟨E2, f1, f2, f3, f4⟩ := set_box e4 hb1 (cs' := cs.set (o - 1) r.1) (by simp) (by
        intro blk2 o2 c2 T2 g1 g2 j hj
        rw [hρ, q1] at g1
        cases g1
        rw [e1, q2] at g2
        cases g2
        by_cases ej : j = o - 1
        ·subst ej
         have : (cs.set (o - 1) r.1).getD (o - 1) .top = r.1 := by simp [List.getD, hj]
         rw [this]; exact e5
        ·have : (cs.set (o - 1) r.1).getD j .top = cs.getD j .top := by simp [List.getD, List.getElem?_set_ne (Ne.symm ej)]
         rw [this]; exact (q4 j hj).mono hI e3)
       have hTT := e3.trans f3
       refine ⟨E2, f1.trans e1, by rw [f2, e2], hK.trans (hTT.toK hK.le), f4, ⟨hT.len, fun i hi => (hT.rep i hi).mono hI hTT⟩, hD⟩
     ·cases hg
    ·cases hg
   ·cases hg

theorem fixes_sim {kk : Nat} {E0 : Env} : ∀ {l : List Nat} {ts : List PV} {h : Heap} {c : List PV × Heap} {a : Act} {w : World}, fixes P l ts h = some c → Sim P kk E0 (ts, h) a w → Sim P kk E0 c a w
 | [], ts, h, c, a, w, hg, hS => by cases hg; exact hS
 | e :: es, ts, h, c, a, w, hg, hS => by
  simp only [fixes] at hg
  cases hf : fixAt P e ts h with
  | none => rw [hf] at hg; cases hg
  | some r =>
   rw [hf] at hg
   exact fixes_sim (l := es) hg (fixAt_sim hf hS)

/-- only some places are kept -/
theorem gc_sim {kk : Nat} {E0 : Env} {live : List Nat} {ts : List PV} {h : Heap} {c : List PV × Heap} {a : Act} {w : World} (hg : gc kk live ts h = some c) (hS : Sim P kk E0 (ts, h) a w) : Sim P kk E0 c a w := by
 obtain ⟨E, rfl, hh, hK, hI, hT, hD⟩ := hS
 dsimp only at hh hT
 subst hh
 unfold gc at hg
 dsimp only at hg
 rw [keepL_eq] at hg
 generalize hts1 : (ts.mapIdx fun i v => if live.contains i then v else PV.top) = ts1 at *
 cases hr : reach E.h (List.range kk ++ ts1.flatMap refs) with
 | none => rw [hr] at hg; cases hg
 | some ids =>
  rw [hr] at hg
  simp only [Option.bind_some] at hg
  split at hg
  ·rename_i hc
   simp only [Bool.and_eq_true, decide_eq_true_eq] at hc
   cases hg
   have hR := reach_spec hr
   have hT1 : RepT P E ts1 a := by
    rw [← hts1]
    refine ⟨by simp [hT.len], fun i hi => ?_⟩
    have hi' : i < ts.length := by simpa using hi
    have := hT.rep i hi'
    simp only [List.getD, List.getElem?_mapIdx] at this ⊢
    rw [List.getElem?_eq_getElem hi'] at this ⊢
    simp only [Option.map_some, Option.getD_some] at this ⊢
    split
    ·exact this
    ·exact .top _
   refine ⟨E.sub ids, rfl, rfl, hK.trans (sub_transK hR hc.2), sub_inv hI hR, ⟨by simp [hT1.len], fun i hi => ?_⟩, hD⟩
   have hi' : i < ts1.length := by simpa using hi
   have hget : (ts1.map (ren ids.idxOf)).getD i .top = ren ids.idxOf (ts1.getD i .top) := by
    simp only [List.getD, List.getElem?_map, List.getElem?_eq_getElem hi', Option.map_some, Option.getD_some]
   rw [hget]
   have hmem : ts1.getD i .top ∈ ts1 := mem_getD_list hi'
   exact (hT1.rep i hi').ren (sub_rn hR) (List.all_eq_true.1 hc.1 _ hmem) fun b hb => hR.rt b (List.mem_append_right _ (List.mem_flatMap.2 ⟨_, hmem, hb⟩))
  ·cases hg

def exIs : Ex → Exit → Prop
 | .normal, e => e = .normal
 | .exit i, e => e = .exit i
 | .ret, e => e = .ret

/-- code ends as the pure machine tells -/
def CodePost (P : Program) (kk : Nat) (E0 : Env) (k : Ex → List PV → Heap → Option R) (r : R) : Exit → Act → World → Prop :=
 fun e a w => ∃ x σ, exIs x e ∧ Sim P kk E0 σ a w ∧ k x σ.1 σ.2 = some r

theorem run_wp (hm : P.follows .mixedOrders = true) (hN : Named P) (hC : CallsOK P C) {n kk : Nat} {live : Nat → Option (List Nat)} {E0 : Env} {r : R} :
  ∀ (c : Code) (ts : List PV) (h : Heap) (k : Ex → List PV → Heap → Option R) (a : Act) (w : World), run P C M n kk live c ts h k = some r → Sim P kk E0 (ts, h) a w → c.wp P (CodePost P kk E0 k r) a w := by
 intro c
 induction c with
 | skip => intro ts h k a w hk hS; exact wp_skip ⟨.normal, (ts, h), rfl, hS, hk⟩
 | label l => intro ts h k a w hk hS; exact wp_label ⟨.normal, (ts, h), rfl, hS, hk⟩
 | region id ops d =>
  intro ts h k a w hk hS
  simp only [run] at hk
  cases d with
  | true =>
   rw [if_pos rfl] at hk
   split at hk
   ·rename_i hs
    obtain ⟨E, rfl, hh, hK, hI, hT, hD⟩ := hS
    dsimp only at hh hT
    subst hh
    exact draw_wp hm hN hC hs hk hK hI hT hD fun a w σ hS hk => ⟨.normal, σ, rfl, hS, hk⟩
   ·cases hk
  | false =>
   rw [if_neg (by simp)] at hk
   refine wp_region ?_
   have := runOps_wp (Q := CodePost P kk E0 k r) hN hC (fun a w σ hS hk => ⟨.normal, σ, rfl, hS, hk⟩) ops.toList 0 ts h a w (fun t => by simp) hk hS
   rw [List.range_eq_range']
   simpa using this
 | seq x y ihx ihy =>
  intro ts h k a w hk hS
  simp only [run] at hk
  refine wp_seq (wp_mono (ihx ts h _ a w hk hS) ?_)
  rintro e a' w' ⟨z, σ, hz, hS', hk'⟩
  cases z with
  | normal =>
   cases hz
   exact ihy σ.1 σ.2 k a' w' hk' hS'
  | exit i => cases hz; exact ⟨.exit i, σ, rfl, hS', hk'⟩
  | ret => cases hz; exact ⟨.ret, σ, rfl, hS', hk'⟩
 | cond c x y ihx ihy =>
  intro ts h k a w hk hS
  simp only [run] at hk
  split at hk
  ·rename_i t ht
   have hv : a.eval c = .bool t := by
    obtain ⟨E, _, _, _, _, hT, _⟩ := hS
    have := hT.ev c
    dsimp only at this
    rw [ht] at this
    exact this.bool_inv
   refine wp_cond hv ?_
   cases t with
   | true => exact ihx ts h k a w (by simpa using hk) hS
   | false => exact ihy ts h k a w (by simpa using hk) hS
  ·cases hk
 | block id x ih =>
  intro ts h k a w hk hS
  simp only [run] at hk
  refine wp_block (wp_mono (ih ts h _ a w hk hS) ?_)
  rintro e a' w' ⟨z, σ, hz, hS', hk'⟩
  cases z with
  | normal => cases hz; exact ⟨.normal, σ, rfl, hS', hk'⟩
  | exit i =>
   cases hz
   simp only [Exit.inBlock]
   dsimp only at hk'
   split at hk'
   ·rename_i hi; rw [if_pos hi]; exact ⟨.normal, σ, rfl, hS', hk'⟩
   ·rename_i hi; rw [if_neg hi]; exact ⟨.exit i, σ, rfl, hS', hk'⟩
  | ret => cases hz; exact ⟨.ret, σ, rfl, hS', hk'⟩
 | loop x ih =>
  intro ts h k a w hk hS
  simp only [run] at hk
  refine wp_loop_ghost (fun m a w => ∃ σ : St, Sim P kk E0 σ a w ∧ loopN (run P C M n kk live x) (cleanX P kk live (rid x)) m σ.1 σ.2 k = some r) n ⟨(ts, h), hS, hk⟩ ?_
  rintro m a w ⟨σ, hS, hk⟩
  cases m with
  | zero => simp [loopN] at hk
  | succ m =>
   simp only [loopN] at hk
   have cl0 : ∀ {l : Option (List Nat)} {σ : St} {c : List PV × Heap} {a : Act} {w : World}, cleanL P kk l σ.1 σ.2 = some c → Sim P kk E0 σ a w → Sim P kk E0 c a w := by
    intro l σ c a w hc hS
    unfold cleanL at hc
    split at hc
    ·obtain ⟨c1, g1, g2⟩ := Option.bind_eq_some_iff.1 hc
     exact gc_sim g2 (fixes_sim g1 hS)
    ·cases hc; exact hS
   have cl : ∀ {e : Ex} {σ : St} {c : List PV × Heap} {a : Act} {w : World}, cleanX P kk live (rid x) e σ.1 σ.2 = some c → Sim P kk E0 σ a w → Sim P kk E0 c a w := by
    intro e σ c a w hc hS
    cases e with
    | normal => exact cl0 hc hS
    | exit i =>
     simp only [cleanX] at hc
     split at hc
     ·exact cl0 hc hS
     ·exact cl0 hc hS
    | ret =>
     simp only [cleanX] at hc
     split at hc
     ·exact cl0 hc hS
     ·exact cl0 hc hS
   cases hc : cleanX P kk live (rid x) .normal σ.1 σ.2 with
   | none => rw [hc] at hk; cases hk
   | some c =>
    rw [hc] at hk
    have hS2 := cl hc hS
    refine wp_mono (ih c.1 c.2 _ a w hk hS2) ?_
    rintro e a' w' ⟨z, σ', hz, hS', hk'⟩
    cases z with
    | normal => cases hz; exact ⟨m, Nat.lt_succ_self m, σ', hS', hk'⟩
    | exit i =>
     cases hz
     obtain ⟨c2, e1, e2⟩ := Option.bind_eq_some_iff.1 hk'
     exact ⟨.exit i, c2, rfl, cl e1 hS', e2⟩
    | ret =>
     cases hz
     obtain ⟨c2, e1, e2⟩ := Option.bind_eq_some_iff.1 hk'
     exact ⟨.ret, c2, rfl, cl e1 hS', e2⟩
 | scope x ih =>
  intro ts h k a w hk hS
  simp only [run] at hk
  refine wp_scope_straight (wp_mono (ih ts h k a w hk hS) ?_)
  rintro e a' w' ⟨z, σ, hz, hS', hk'⟩
  cases z <;> cases hz
  ·exact ⟨.normal, σ, rfl, hS', hk'⟩
  ·rename_i i; exact ⟨.exit i, σ, rfl, hS', hk'⟩
  ·exact ⟨.ret, σ, rfl, hS', hk'⟩
 | exit i => intro ts h k a w hk hS; exact wp_exit ⟨.exit i, (ts, h), rfl, hS, hk⟩
 | ret => intro ts h k a w hk hS; exact wp_ret ⟨.ret, (ts, h), rfl, hS, hk⟩
 | goto l => intro ts h k a w hk hS; simp [run] at hk
 | _ => intros; rename_i hk _; simp [run] at hk

end
end Go.Pu
