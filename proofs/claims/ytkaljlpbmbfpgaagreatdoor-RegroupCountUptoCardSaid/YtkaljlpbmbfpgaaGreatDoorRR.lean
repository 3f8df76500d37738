/- The pure machine, eighteenth part: a call, whole. -/
import Derived.Test.YtkaljlpbmbfpgaaGreatDoorRQ
set_option linter.unusedSimpArgs false
namespace Go.Pu

section
variable {P : Program} {E : Env}

theorem flat_rep {E' : Env} (hw : E'.w = E.w) (hh : E'.h = E.h) (hρ : E'.ρ = E.ρ) {x : PV} {v : Value} (h : Rep P E x v) (hf : flat1 x = true) : Rep P E' x v := by
 cases h <;> simp [flat1] at hf
 case bool b => exact .bool b
 case int k n => exact .int k n
 case str s => exact .str s
 case nils => exact .nils
 case all b n hn hS =>
  refine .all b n _ (by rw [hh]; exact hn) ?_
  unfold SlcAt at hS ⊢
  rw [hh, hρ, hw]
  exact hS
 case own b off n hS =>
  refine .own b off n _ ?_
  unfold SlcAt at hS ⊢
  rw [hh, hρ, hw]
  exact hS

theorem flat_repR {E' : Env} (hw : E'.w = E.w) (hh : E'.h = E.h) (hρ : E'.ρ = E.ρ) {x : PV} {v : Value} (h : Rep P E x v) (hf : flatT x = true) : Rep P E' x v := by
 have one : ∀ {y : PV} {u : Value}, Rep P E y u → flat y = true → Rep P E' y u := by
  intro y u hy hfy
  cases hy with
  | agg cs vs hl hr =>
   refine .agg cs vs hl fun i hi => ?_
   exact flat_rep hw hh hρ (hr i hi) (List.all_eq_true.1 hfy _ (mem_getD_list hi))
  | bool b => exact .bool b
  | int k n => exact .int k n
  | str s => exact .str s
  | nils => exact .nils
  | all b n _ hn hS => exact flat_rep hw hh hρ (.all b n _ hn hS) rfl
  | own b off n _ hS => exact flat_rep hw hh hρ (.own b off n _ hS) rfl
  | _ => simp [flat, flat1] at hfy
 cases h with
 | tuple cs vs hl hr =>
  refine .tuple cs vs hl fun i hi => ?_
  exact one (hr i hi) (List.all_eq_true.1 hf _ (mem_getD_list hi))
 | agg cs vs hl hr => exact one (.agg cs vs hl hr) hf
 | bool b => exact .bool b
 | int k n => exact .int k n
 | str s => exact .str s
 | nils => exact .nils
 | all b n v hn hS => exact one (.all b n v hn hS) hf
 | own b off n v hS => exact one (.own b off n v hS) hf
 | _ => simp [flatT, flat, flat1] at hf

/-- behind a call that can hand back nothing of what it read -/
theorem flat_env {E1 Ec : Env} (hI : Inv P E) (hw1 : E1.w = E.w) (hIc : Inv P Ec) (hT : TransK 0 (E1.sub []) Ec) (hfl : Ec.h.all (flatBlk P) = true) :
  ∃ E2 : Env, E2.w = Ec.w ∧ E2.h = Ec.h ∧ E2.ρ = Ec.ρ ∧ TransK 0 (E.sub []) E2 ∧ Inv P E2 := by
 have noOwn : ∀ (F : Env) (blk : Nat), ¬ Owned (F.sub []) blk := by
  rintro F blk ⟨b, ⟨o, h1, _⟩ | ⟨_, _, _, _, _, _, _, _, h1, _⟩⟩
  ·simp [Env.sub] at h1
  ·simp [Env.sub] at h1
 have hsz : E.w.heap.size ≤ Ec.w.heap.size := by have := hT.size; rw [show (E1.sub []).w = E.w from hw1] at this; exact this
 have own_ge : ∀ blk, Owned Ec blk → E.w.heap.size ≤ blk := by
  intro blk h
  rcases Nat.lt_or_ge blk E.w.heap.size with hlt | hge
  ·exact absurd (hT.owned blk (by rw [show (E1.sub []).w = E.w from hw1]; exact hlt) h) (noOwn E1 blk)
  ·exact hge
 refine ⟨{ w := Ec.w, h := Ec.h, ρ := Ec.ρ, im := fun blk => E.im blk ∨ (E.w.heap.size ≤ blk ∧ Ec.im blk) }, rfl, rfl, rfl, ?_, ?_⟩
 ·refine ⟨fun b hb => by omega, fun b hb => by omega, fun blk h => .inl h, hsz, ?_, ?_, ?_, fun blk hb _ => ?_, fun blk c T fz hc => ?_, fun blk hb ho => ?_, fun blk hb hm => ?_, Nat.zero_le _⟩
  ·have := hT.os; rw [show (E1.sub []).w = E.w from hw1] at this; exact this
  ·have := hT.tape; rw [show (E1.sub []).w = E.w from hw1] at this; exact this
  ·have := hT.output; rw [show (E1.sub []).w = E.w from hw1] at this; exact this
  ·have := hT.frame blk (by rw [show (E1.sub []).w = E.w from hw1]; exact hb) (noOwn E1 blk)
   rw [show (E1.sub []).w = E.w from hw1] at this
   exact this
  ·have := hT.shape blk c T fz (by rw [show (E1.sub []).w = E.w from hw1]; exact hc)
   exact this
  ·exfalso
   have hh : Owned Ec blk := ho
   have := own_ge blk hh
   have hb' : blk < E.w.heap.size := hb
   omega
  ·rcases hm with h | ⟨h1, _⟩
   ·exact .inl h
   ·have hb' : blk < E.w.heap.size := hb
    omega
 ·refine ⟨fun b => ?_, hIc.own, fun blk h => ?_, fun x hx => ⟨.inl (hI.tab x hx).1, (hIc.tab x hx).2⟩⟩
  ·have hB := hIc.blk b
   unfold BlkAt at hB ⊢
   cases hx : Ec.h[b]? with
   | none => trivial
   | some x =>
    rw [hx] at hB
    have hfb := List.all_eq_true.1 hfl x (List.mem_of_getElem? hx)
    cases x with
    | dead => trivial
    | res => trivial
    | box => simp [flatBlk] at hfb
    | map => simp [flatBlk] at hfb
    | arr t es l =>
     refine ⟨hB.1, ?_⟩
     show match Ec.ρ b with | none => _ | some (blk, o) => _
     cases hρ : Ec.ρ b with
     | none => have := hB.2; rw [hρ] at this; exact this
     | some p =>
      obtain ⟨blk, o⟩ := p
      have := hB.2
      rw [hρ] at this
      obtain ⟨sz, c, T, h1, h2, h3, h4, h5, h6⟩ := this
      have hlt : l = true := by cases l <;> simp [flatBlk] at hfb ⊢
      subst hlt
      refine ⟨sz, c, T, h1, h2, h3, fun i j hi hj => ?_, fun hl hm => ?_, fun hl => by cases hl⟩
      ·obtain ⟨l1, l2⟩ := cellsOK_getD (hB.1 i hi)
       obtain ⟨_, _, _, hkl, _⟩ := elSize_spec h1
       have hkj : (kds P t)[j]? = some ((kds P t)[j]'(by omega)) := by simp
       exact scalar_rep (h4 i j hi hj) (l2 j _ hkj) (List.all_eq_true.1 hfb _ (List.getElem_mem _))
      ·rcases hm with hm | ⟨_, hm⟩
       ·have hlt := hI.imlt blk hm
        have := own_ge blk ⟨b, .inl ⟨o, hρ, .inl ⟨t, es, by rw [hx, hl]⟩⟩⟩
        omega
       ·exact h5 hl hm
  ·rcases h with h | ⟨_, h⟩
   ·exact Nat.lt_of_lt_of_le (hI.imlt blk h) hsz
   ·exact hIc.imlt blk h

theorem repL_ren {E' : Env} {f : Nat → Nat} {D : Nat → Prop} (hR : Rn E E' f D) {xs : List PV} {vs : List Value} (h : RepL P E xs vs) (hs : ∀ x ∈ xs, sh x = true) (hd : ∀ b ∈ xs.flatMap refs, D b) : RepL P E' (xs.map (ren f)) vs := by
 refine ⟨by simpa using h.1, fun i hi => ?_⟩
 have hi' : i < xs.length := by simpa using hi
 rw [getD_map_ren rfl]
 exact (h.2 i hi').ren hR (hs _ (mem_getD_list hi')) fun b hb => hd b (List.mem_flatMap.2 ⟨_, mem_getD_list hi', hb⟩)

theorem repL_view {E' : Env} (hI : Inv P E) (hI' : Inv P E') (hT : Trans E E') {xs ys : List PV} (h : mapO (view E.h) xs = some ys) {vs : List Value} (hx : RepL P E xs vs)
  (hf : ∀ b ∈ xs.flatMap refs, ∀ t es l, E.h[b]? = some (.arr t es l) → E'.h[b]? = some (.arr t es false) ∧ ∀ blk o, E.ρ b = some (blk, o) → E'.im blk) : RepL P E' ys vs := by
 obtain ⟨l1, l2⟩ := mapO_spec h
 refine ⟨by rw [l1, hx.1], fun i hi => ?_⟩
 have hi' : i < xs.length := by omega
 obtain ⟨y, hy, hv⟩ := l2 i xs[i] (by simp [hi'])
 have h1 := hx.2 i hi'
 rw [List.getD, List.getElem?_eq_getElem hi'] at h1
 have h2 : ys.getD i .top = y := by rw [List.getD, hy]; rfl
 rw [h2]
 exact view_rep hI hI' hT hv h1 fun b hb => hf b (List.mem_flatMap.2 ⟨_, List.getElem_mem hi', hb⟩)

theorem freeze_length (h : Heap) (b : Nat) : (freeze h b).length = h.length := by
 unfold freeze
 split <;> simp

theorem freezes_length : ∀ (bs : List Nat) (h : Heap), (bs.foldl freeze h).length = h.length
 | [], h => rfl
 | b :: bs, h => by rw [List.foldl_cons, freezes_length bs, freeze_length]

theorem freeze_res (h : Heap) (b i : Nat) (hi : h[i]? = none ∨ h[i]? = some .res) : (freeze h b)[i]? = h[i]? := by
 unfold freeze
 split
 ·rename_i hb
  rw [List.getElem?_set]
  split
  ·rename_i e
   subst e
   rw [hb] at hi
   rcases hi with hi | hi <;> cases hi
  ·rfl
 ·rfl

theorem freezes_res : ∀ (bs : List Nat) (h : Heap) (i : Nat), (h[i]? = none ∨ h[i]? = some .res) → (bs.foldl freeze h)[i]? = h[i]?
 | [], h, i, _ => rfl
 | b :: bs, h, i, hi => by
  have h1 := freeze_res h b i hi
  rw [List.foldl_cons, freezes_res bs _ i (by rw [h1]; exact hi), h1]

theorem callOp_run {C : CallF} (hC : CallsOK P C) (hI : Inv P E) {M : FuncId → Bool} {al : Option Nat} {f : FuncId} {xs : List PV} {z : PV} {h' : Heap} (h : callOp P C M al E.h f xs = some (z, h')) {vs : List Value} (hx : RepL P E xs vs) :
  (∃ fn, P.funcs[f]? = some fn ∧ fn.body.isSome = true) ∧
  Calls P f vs.toArray E.w fun e w' => ∃ v E', e = .returned v ∧ E'.w = w' ∧ E'.h = h' ∧ Trans E E' ∧ Inv P E' ∧ Rep P E' z v := by
 unfold callOp callCore at h
 cases hys : (if M f then some xs else mapO (view E.h) xs) with
 | none => simp [hys] at h
 | some ys =>
 cases hrc : reach E.h (ys.flatMap refs) with
 | none => simp [hys, hrc] at h
 | some ids =>
 simp only [hys, hrc, Option.bind_some] at h
 split at h
 ·rename_i hsh
  simp only [Bool.and_eq_true] at hsh
  cases hcc : C f (ys.map (ren ids.idxOf)) (heapOf E.h ids) with
  | none => simp [hcc] at h
  | some r =>
  obtain ⟨r1, r2⟩ := r
  simp only [hcc, Option.bind_some] at h
  split at h
  ·rename_i hok
   simp only [Bool.and_eq_true] at hok
   obtain ⟨⟨hrf, hokb⟩, hshr⟩ := hok
   simp only [Option.map_some, Option.some.injEq, Prod.mk.injEq] at h
   obtain ⟨rfl, rfl⟩ := h
   have hr := reach_spec hrc
   obtain ⟨hbody, hcall⟩ := hC _ _ _ _ _ hcc
   refine ⟨hbody, ?_⟩
   generalize hvd : ((xs.flatMap refs).filter fun b => !ids.contains b) = vids at *
   -- the world in which what is read is written no more
   obtain ⟨E1, e1, e2, e3, e4, e5, e6, e7⟩ := freezes_env vids hI
   have hids : ∀ b ∈ ids, E1.h[b]? = E.h[b]? := by
    intro b hb
    refine e6 b fun hm => ?_
    rw [← hvd] at hm
    have := (List.mem_filter.1 hm).2
    simp [hb] at this
   have hgetD : ∀ b ∈ ids, ∀ d, E1.h.getD b d = E.h.getD b d := fun b hb d => by simp only [List.getD, hids b hb]
   have hr1 : Reach E1.h (ys.flatMap refs) ids := by
    refine ⟨hr.nd, fun b hb => by rw [hgetD b hb]; exact hr.ok b hb, fun b hb c hc => hr.cl b hb c ?_, hr.rt⟩
    simpa only [boxRefs, hids b hb] using hc
   have hheap : heapOf E1.h ids = heapOf E.h ids := by
    unfold heapOf
    exact List.map_congr_left fun b hb => by rw [hgetD b hb]
   have hys1 : RepL P E1 ys vs := by
    by_cases hM : M f = true
    ·rw [if_pos hM] at hys
     cases hys
     exact hx.mono hI e4
    ·rw [if_neg hM] at hys
     refine repL_view hI e5 e4 hys hx fun b hb t es l hl => ?_
     by_cases hbi : b ∈ ids
     ·-- a block that is viewed is not handed over
      have h9 := hsh.2
      rw [Bool.or_eq_true] at h9
      rcases h9 with h9 | h9
      ·exact absurd h9 hM
      ·have := List.all_eq_true.1 h9 b hb
       rw [hl] at this
       simp [hbi] at this
     ·exact e7 b (by rw [← hvd]; exact List.mem_filter.2 ⟨hb, by simpa using hbi⟩) t es l hl
   have hysS : RepL P (E1.sub ids) (ys.map (ren ids.idxOf)) vs := repL_ren (sub_rn hr1) hys1 (fun x hx' => List.all_eq_true.1 hsh.1 x hx') (fun b hb => hr1.rt b hb)
   have hcall1 := hcall (E1.sub ids) vs (by show heapOf E1.h ids = _; exact hheap) (by rw [← hheap]; exact heapOf_ok hr1) (sub_inv e5 hr1) hysS
   rw [show (E1.sub ids).w = E.w from e1] at hcall1
   refine hcall1.mono ?_
   rintro e w' ⟨v, Ec, rfl, rfl, rfl, hT, hIc, hrep⟩
   have hkl : (heapOf E.h ids).length = ids.length := by simp [heapOf]
   rw [hkl] at hT
   have hokc : ∀ b : Nat, b < Ec.h.length → okBlk (Ec.h.getD b .res) = true := by
    intro b hb
    have := List.all_eq_true.1 hokb (Ec.h[b]) (List.getElem_mem hb)
    simpa [List.getD, hb] using this
   have hkle := hT.le
   -- whose end is it
   have fin : ∀ (F Fc : Env), Inv P F → Reach F.h (ys.flatMap refs) ids → F.h.length = E.h.length → Trans E F → (∀ i : Nat, E.h[i]? = none ∨ E.h[i]? = some .res → F.h[i]? = E.h[i]?) → Fc.w = Ec.w → Fc.h = Ec.h → Inv P Fc → TransK ids.length (F.sub ids) Fc → Rep P Fc r1 v →
     ∃ E', E'.w = Ec.w ∧ E'.h = addMany al (setMany F.h ids ((Ec.h.map (renBlk (fwd ids (baseOf al E.h)))).take ids.length)) ((Ec.h.map (renBlk (fwd ids (baseOf al E.h)))).drop ids.length) ∧ Trans E E' ∧ Inv P E' ∧
      Rep P E' (renR (fwd ids (baseOf al E.h)) r1) v := by
    intro F Fc hIF hrF hlF hTF hresF hwF hhF hIFc hTc hrepF
    have hF := fin_spec hr (h1 := F.h) hlF (al := al) (bs := Ec.h.map (renBlk (fwd ids (baseOf al E.h)))) (by simpa using hkle) hrf
    obtain ⟨E', g1, g2, g3, g4, g5⟩ := callOut hIF hrF hTc hIFc (by rw [hhF]; exact hokc) (g := fwd ids (baseOf al E.h))
     (fun j hj => by rw [hhF] at hj ⊢; rw [hF.f1 j (by simpa using hj)]; simp) (fun b hb => hF.f2 b fun j hj => hb j (by rw [hhF]; simpa using hj)) (fun i j hi hj he => hF.gi i j (by rw [hhF] at hi; simpa using hi) (by rw [hhF] at hj; simpa using hj) he)
     hF.gk (fun j hj hjb => by
      have := hF.gf j hj (by rw [hhF] at hjb; simpa using hjb)
      rw [hresF _ this]; exact this)
    refine ⟨E', g1.trans hwF, g2, hTF.trans g3, g4, hrepF.renR g5 hshr fun b hb => rep_refsR hrepF b hb⟩
   by_cases hflat : (ids.isEmpty && flatR P Ec.h r1) = true
   ·rw [if_pos hflat]
    simp only [Bool.and_eq_true] at hflat
    have hid0 := nils_of_zero hflat.1
    simp only [flatR, Bool.and_eq_true] at hflat
    subst hid0
    obtain ⟨E2, k1, k2, k3, k4, k5⟩ := flat_env hI e1 hIc hT hflat.2.1
    obtain ⟨E', g1, g2, g3, g4, g5⟩ := fin E E2 hI hr rfl (Trans.refl E) (fun _ _ => rfl) k1 k2 k5 k4 (flat_repR k1 k2 k3 hrep hflat.2.2)
    exact ⟨v, E', rfl, g1, g2, g3, g4, g5⟩
   ·rw [if_neg hflat]
    have hl1 : E1.h.length = E.h.length := by rw [e2]; exact freezes_length vids E.h
    obtain ⟨E', g1, g2, g3, g4, g5⟩ := fin E1 Ec e5 hr1 hl1 e4 (fun i hi => by rw [e2]; exact freezes_res vids E.h i hi) rfl rfl hIc hT hrep
    exact ⟨v, E', rfl, g1, by rw [g2, e2], g3, g4, g5⟩
  ·simp at h
 ·simp at h

end
end Go.Pu
