/- The pure machine, tenth part: rows that are made. -/
import Derived.Test.YtkaljlpbmbfpgaaGreatDoorRI
set_option linter.unusedSimpArgs false
namespace Go.Pu

section
variable {P : Program} {E : Env}

/-- a slice whose row is written no more is plain data -/
theorem SliceIs.lst {t : TypeId} {es : List (List PV)} {v : Value} (h : SliceIs P E (some t) es v) (him : ∀ blk o (c : Array Value) T fz A n cap, v = .slice (some A) n cap → A = ⟨blk, o, none⟩ → es ≠ [] → E.w.heap[blk]? = some (.cells c T fz) → E.im blk) : Rep P E (.lst t es) v := by
 obtain ⟨A, cap, rfl, hcap, ⟨_, hA⟩, hq⟩ := h
 rcases hq with rfl | ⟨t', sz, blk, o, c, T', fz, he, hs, rfl, hb, hle, hk, hr⟩
 ·exact .lst0 _ _ _ hA
 ·obtain rfl := Option.some.inj he
  by_cases hne : es = []
  ·subst hne; exact .lst0 _ _ _ hA
  ·exact .lst _ es blk o cap sz c T' fz hs hb (him blk o c T' fz _ _ _ rfl rfl hne hb) hcap hle hk hr

/-- what a step leaves of the memory alone -/
def Step (P : Program) (E : Env) (h' : Heap) (w' : World) (Q : Env → Prop) : Prop := ∃ E', E'.w = w' ∧ E'.h = h' ∧ Trans E E' ∧ Inv P E' ∧ Q E'

theorem own_pure (hI : Inv P E) {b off n : Nat} {t : TypeId} {es : List (List PV)} {l : Bool} {v : Value} (hb : E.h[b]? = some (.arr t es l)) (hle : off + n ≤ es.length) (h : SlcAt P E b off n v) :
  Step P E (freeze E.h b) E.w fun E' => Rep P E' (.lst t ((es.drop off).take n)) v := by
 obtain ⟨E', e1, e2, e3, hT, hI', hf⟩ := freeze_env hI b
 obtain ⟨f1, f2⟩ := hf t es l hb
 refine ⟨E', e1, e2, hT, hI', ?_⟩
 refine (own_is hI' f1 (h.mono hT) hle).lst fun blk o c T fz A m cap hv hA hne hc => ?_
 unfold SlcAt at h
 rw [hb] at h
 obtain ⟨_, sz, A', cap', _, hv', hn, hh⟩ := h
 rw [hv] at hv'
 cases hv'
 rcases hh with hh | ⟨blk', o', c', T', h1, h2, _⟩
 ·exfalso
  apply hne
  apply List.eq_nil_of_length_eq_zero
  simp
  omega
 ·cases h2
  cases hA
  exact f2 _ _ h1

theorem purCell_env (hI : Inv P E) {k : Kd} {x y : PV} {h1 : Heap} (h : purCell E.h k x = some (y, h1)) {v : Value} (hx : Rep P E x v) :
  Step P E h1 E.w fun E' => Rep P E' y v ∧ cellOK k y = true := by
 have other : (if cellOK k x then some (x, E.h) else none) = some (y, h1) → Step P E h1 E.w fun E' => Rep P E' y v ∧ cellOK k y = true := by
  intro h
  split at h
  ·rename_i hk
   cases h
   exact ⟨E, rfl, rfl, Trans.refl E, hI, hx, hk⟩
  ·simp at h
 unfold purCell at h
 split at h
 ·cases h
  obtain rfl := hx.nils_inv
  exact ⟨E, rfl, rfl, Trans.refl E, hI, .lst0 _ _ _ (fun _ => rfl), by simp [cellOK]⟩
 ·split at h
  ·rename_i t' es l hb
   split at h
   ·rename_i e
    subst e
    cases h
    cases hx with
    | all _ n _ hn hh =>
     obtain rfl := hn _ _ _ hb
     obtain ⟨E', e1, e2, e3, e4, e5⟩ := own_pure hI hb (by omega) hh
     refine ⟨E', e1, e2, e3, e4, by simpa using e5, by simp [cellOK]⟩
   ·simp at h
  ·simp at h
 ·split at h
  ·rename_i t' es l hb
   split at h
   ·rename_i e
    obtain ⟨rfl, hle⟩ := e
    cases h
    cases hx with
    | own _ _ _ _ hh =>
     obtain ⟨E', e1, e2, e3, e4, e5⟩ := own_pure hI hb hle hh
     exact ⟨E', e1, e2, e3, e4, e5, by simp [cellOK]⟩
   ·simp at h
  ·simp at h
 ·exact other h

theorem Step.trans {E1 : Env} {h1 h2 : Heap} {w1 w2 : World} {Q : Env → Prop} {Q' : Env → Prop} (hT : Trans E E1) (_hw : E1.w = w1) (_hh : E1.h = h1) (h : Step P E1 h2 w2 Q) (k : ∀ E', Trans E1 E' → Inv P E' → Q E' → Q' E') : Step P E h2 w2 Q' := by
 obtain ⟨E2, e1, e2, e3, e4, e5⟩ := h
 exact ⟨E2, e1, e2, hT.trans e3, e4, k E2 e3 e4 e5⟩

theorem purCells_env : ∀ {ks : List Kd} {xs ys : List PV} {E : Env} {h1 : Heap} {vs : List Value}, Inv P E → purCells E.h ks xs = some (ys, h1) → xs.length = vs.length → (∀ j, j < xs.length → Rep P E (xs.getD j .top) (vs.getD j undef)) →
  Step P E h1 E.w fun E' => ys.length = xs.length ∧ cellsOK ks ys = true ∧ ∀ j, j < ys.length → Rep P E' (ys.getD j .top) (vs.getD j undef)
 | [], [], ys, E, h1, vs, hI, h, _, _ => by
  simp only [purCells, Option.some.injEq, Prod.mk.injEq] at h
  obtain ⟨rfl, rfl⟩ := h
  exact ⟨E, rfl, rfl, Trans.refl E, hI, rfl, rfl, fun j hj => by simp at hj⟩
 | [], _ :: _, _, _, _, _, _, h, _, _ => by simp [purCells] at h
 | _ :: _, [], _, _, _, _, _, h, _, _ => by simp [purCells] at h
 | _ :: _, _ :: _, _, _, _, [], _, _, hl, _ => by simp at hl
 | k :: ks, x :: xs, ys, E, h1, v :: vs, hI, h, hl, hr => by
  simp only [purCells] at h
  cases hc : purCell E.h k x with
  | none => simp [hc] at h
  | some r =>
   obtain ⟨y, h2⟩ := r
   simp only [hc, Option.bind_some] at h
   cases hs : purCells h2 ks xs with
   | none => simp [hs] at h
   | some s =>
    obtain ⟨zs, h3⟩ := s
    simp only [hs, Option.bind_some, Option.some.injEq, Prod.mk.injEq] at h
    obtain ⟨rfl, rfl⟩ := h
    obtain ⟨E1, e1, e2, e3, e4, e5, e6⟩ := purCell_env hI hc (by simpa using hr 0 (by simp))
    have ih := purCells_env (vs := vs) e4 (by rw [e2]; exact hs) (by simpa using hl) (fun j hj => by
     have := hr (j + 1) (by simp; exact hj)
     exact (by simpa using this : Rep P E _ _).mono hI e3)
    rw [e1] at ih
    refine Step.trans e3 e1 e2 ih fun E' hT hI' hq => ⟨by simp [hq.1], by simp [cellsOK, e6, hq.2.1], fun j hj => ?_⟩
    cases j with
    | zero => simpa using e5.mono e4 hT
    | succ j => simpa using hq.2.2 j (by simpa using hj)

theorem litEls_env {e : TypeId} : ∀ {parts : List (Nat × PV)} {n : Nat} {r : List (List PV)} {E : Env} {h1 : Heap} {vs : List (Nat × Value)}, Inv P E → litEls P e E.h n parts = some (r, h1) → parts.length = vs.length →
  (∀ (j : Nat) (p : Nat × PV), parts[j]? = some p → ∃ q : Nat × Value, vs[j]? = some q ∧ q.1 = p.1 ∧ Rep P E p.2 q.2) →
  Step P E h1 E.w fun E' => r.length = parts.length ∧ (∀ i, i < r.length → cellsOK (kds P e) (r.getD i []) = true) ∧
   ∀ (i : Nat) (q : Nat × Value), vs[i]? = some q → q.1 = n + i ∧ RepCs P E' (r.getD i []) q.2.cells
 | [], n, r, E, h1, [], hI, h, _, _ => by
  simp only [litEls, Option.some.injEq, Prod.mk.injEq] at h
  obtain ⟨rfl, rfl⟩ := h
  exact ⟨E, rfl, rfl, Trans.refl E, hI, rfl, fun i hi => by simp at hi, fun i q hq => by simp at hq⟩
 | [], _, _, _, _, _ :: _, _, _, hl, _ => by simp at hl
 | _ :: _, _, _, _, _, [], _, _, hl, _ => by simp at hl
 | (i, x) :: ps, n, r, E, h1, (i', v) :: vs, hI, h, hl, hq => by
  obtain ⟨q, a1, a2, a3⟩ := hq 0 (i, x) rfl
  simp at a1
  subst a1
  simp only at a2 a3
  subst a2
  simp only [litEls] at h
  split at h
  ·rename_i hc
   obtain ⟨rfl, hok⟩ := hc
   cases hp : purCells E.h (kds P e) x.cells with
   | none => simp [hp] at h
   | some s =>
    obtain ⟨ys, h2⟩ := s
    simp only [hp, Option.bind_some] at h
    cases hs : litEls P e h2 (i' + 1) ps with
    | none => simp [hs] at h
    | some z =>
     obtain ⟨zs, h3⟩ := z
     simp only [hs, Option.bind_some, Option.some.injEq, Prod.mk.injEq] at h
     obtain ⟨rfl, rfl⟩ := h
     have hcs := okv_cells a3 hok
     obtain ⟨E1, e1, e2, e3, e4, e5, e6, e7⟩ := purCells_env (vs := v.cells.toList) hI hp (by simpa using hcs.1) (fun j hj => by
      have := hcs.2 j hj
      have ej : v.cells.toList.getD j undef = v.cells.getD j undef := by
       rw [List.getD, Array.getElem?_toList]
       by_cases hb : j < v.cells.size
       ·rw [Array.getElem?_eq_getElem hb, Array.getD, dif_pos hb]; rfl
       ·rw [Array.getElem?_eq_none (by omega), Array.getD, dif_neg hb]; rfl
      rw [ej]
      exact this)
     have ih := litEls_env (vs := vs) e4 (by rw [e2]; exact hs) (by simpa using hl) (fun j p hj => by
      obtain ⟨q, b1, b2, b3⟩ := hq (j + 1) p (by simpa using hj)
      exact ⟨q, by simpa using b1, b2, b3.mono hI e3⟩)
     rw [e1] at ih
     refine Step.trans e3 e1 e2 ih fun E' hT hI' hR => ⟨by simp [hR.1], fun j hj => ?_, fun j q hj => ?_⟩
     ·cases j with
      | zero => simpa using e6
      | succ j => simpa using hR.2.1 j (by simpa using hj)
     ·cases j with
      | zero =>
       simp at hj
       subst hj
       refine ⟨by simp, by simpa using e5.trans hcs.1, fun j hj => ?_⟩
       have hj' : j < ys.length := by simpa using hj
       have := (e7 j hj').mono e4 hT
       have ej : v.cells.toList.getD j undef = v.cells.getD j undef := by
        rw [List.getD, Array.getElem?_toList]
        by_cases hb : j < v.cells.size
        ·rw [Array.getElem?_eq_getElem hb, Array.getD, dif_pos hb]; rfl
        ·rw [Array.getElem?_eq_none (by omega), Array.getD, dif_neg hb]; rfl
       rw [ej] at this
       simpa using this
      | succ j =>
       obtain ⟨c1, c2⟩ := hR.2.2 j q (by simpa using hj)
       exact ⟨by omega, by simpa using c2⟩
  ·simp at h

/-- cells of elements, one behind the other -/
theorem fillEls {sz : Nat} : ∀ (parts : List (Nat × List PV)) (n : Nat) (cs : List PV), (∀ (j : Nat) (p : Nat × List PV), parts[j]? = some p → p.1 = n + j ∧ p.2.length = sz) → (n + parts.length) * sz ≤ cs.length →
  ∃ r, fillPV (fun i => some (i * sz, sz)) cs (parts.map fun p => (p.1, PV.agg p.2)) = some r ∧ r.length = cs.length ∧
   ∀ k, r.getD k .top = if n * sz ≤ k ∧ k < (n + parts.length) * sz then ((parts.getD ((k - n * sz) / sz) (0, [])).2).getD ((k - n * sz) % sz) .top else cs.getD k .top
 | [], n, cs, _, _ => ⟨cs, rfl, rfl, fun k => by rw [if_neg (by simp)]⟩
 | (i, ys) :: ps, n, cs, hp, hl => by
  obtain ⟨e1, e2⟩ := hp 0 (i, ys) rfl
  simp only [Nat.add_zero] at e1 e2
  subst e1
  have hm : (i + 1) * sz ≤ cs.length := Nat.le_trans (Nat.mul_le_mul_right _ (by simp)) hl
  have hm' : i * sz + sz ≤ cs.length := by rw [Nat.add_mul, Nat.one_mul] at hm; exact hm
  obtain ⟨s1, s2⟩ := setCells_spec ys cs (i * sz) (by omega)
  obtain ⟨r, h1, h2, h3⟩ := fillEls ps (i + 1) (setCells cs (i * sz) ys) (fun j p hj => by
   have := hp (j + 1) p (by simpa using hj)
   exact ⟨by omega, this.2⟩) (by
   rw [s1]
   have h9 : i + 1 + ps.length = i + (ps.length + 1) := by omega
   rw [h9]
   simpa using hl)
  refine ⟨r, ?_, by rw [h2, s1], fun k => ?_⟩
  ·simp only [List.map_cons, fillPV, PV.cells, e2]
   rw [if_pos ⟨trivial, hm'⟩]
   exact h1
  ·rw [h3, s2, e2]
   have hsum : (i + (ps.length + 1)) * sz = (i + 1 + ps.length) * sz := by congr 1; omega
   simp only [List.length_cons, hsum]
   have hstep : (i + 1) * sz = i * sz + sz := by rw [Nat.add_mul, Nat.one_mul]
   have hle : (i + 1) * sz ≤ (i + 1 + ps.length) * sz := Nat.mul_le_mul_right _ (by omega)
   by_cases ha : (i + 1) * sz ≤ k ∧ k < (i + 1 + ps.length) * sz
   ·have hsz : 0 < sz := by
     rcases Nat.eq_zero_or_pos sz with h0 | h0
     ·subst h0; simp at ha
     ·exact h0
    rw [if_pos ha, if_pos (by omega)]
    obtain ⟨m, rfl⟩ : ∃ m, k = i * sz + sz + m := ⟨k - (i * sz + sz), by omega⟩
    have f1 : i * sz + sz + m - (i + 1) * sz = m := by omega
    have f2 : i * sz + sz + m - i * sz = sz + m := by omega
    rw [f1, f2, Nat.add_div_left _ hsz, Nat.add_mod_left]
    simp
   ·rw [if_neg ha]
    by_cases hb : i * sz ≤ k ∧ k < i * sz + sz
    ·rw [if_pos hb, if_pos (by omega)]
     have f1 : (k - i * sz) / sz = 0 := Nat.div_eq_of_lt (by omega)
     have f2 : (k - i * sz) % sz = k - i * sz := Nat.mod_eq_of_lt (by omega)
     rw [f1, f2]
     simp
    ·rw [if_neg hb, if_neg (by omega)]

theorem freeze_al {al : Option Nat} {h : Heap} (ha : AlOK h al) (b : Nat) : AlOK (freeze h b) al := by
 cases al with
 | none => trivial
 | some s =>
  unfold freeze
  split
  ·rename_i t es l hb
   show (h.set b (.arr t es false))[s]? = some .res
   have : h[s]? = some .res := ha
   rw [List.getElem?_set]
   split
   ·rename_i e
    subst e
    rw [hb] at this
    cases this
   ·exact this
  ·exact ha

theorem purCell_al {al : Option Nat} {h h1 : Heap} {k : Kd} {x y : PV} (hp : purCell h k x = some (y, h1)) (ha : AlOK h al) : AlOK h1 al := by
 unfold purCell at hp
 split at hp
 ·cases hp; exact ha
 ·split at hp
  ·split at hp
   ·cases hp; exact freeze_al ha _
   ·simp at hp
  ·simp at hp
 ·split at hp
  ·split at hp
   ·cases hp; exact freeze_al ha _
   ·simp at hp
  ·simp at hp
 ·split at hp
  ·cases hp; exact ha
  ·simp at hp

theorem purCells_al {al : Option Nat} : ∀ {ks : List Kd} {xs ys : List PV} {h h1 : Heap}, purCells h ks xs = some (ys, h1) → AlOK h al → AlOK h1 al
 | [], [], ys, h, h1, hp, ha => by simp only [purCells, Option.some.injEq, Prod.mk.injEq] at hp; obtain ⟨_, rfl⟩ := hp; exact ha
 | [], _ :: _, _, _, _, hp, _ => by simp [purCells] at hp
 | _ :: _, [], _, _, _, hp, _ => by simp [purCells] at hp
 | k :: ks, x :: xs, ys, h, h1, hp, ha => by
  simp only [purCells] at hp
  cases hc : purCell h k x with
  | none => simp [hc] at hp
  | some r =>
   obtain ⟨y, h2⟩ := r
   simp only [hc, Option.bind_some] at hp
   cases hs : purCells h2 ks xs with
   | none => simp [hs] at hp
   | some s =>
    obtain ⟨zs, h3⟩ := s
    simp only [hs, Option.bind_some, Option.some.injEq, Prod.mk.injEq] at hp
    obtain ⟨_, rfl⟩ := hp
    exact purCells_al hs (purCell_al hc ha)

theorem litEls_al {al : Option Nat} {e : TypeId} : ∀ {parts : List (Nat × PV)} {n : Nat} {r : List (List PV)} {h h1 : Heap}, litEls P e h n parts = some (r, h1) → AlOK h al → AlOK h1 al
 | [], _, _, h, h1, hp, ha => by simp only [litEls, Option.some.injEq, Prod.mk.injEq] at hp; obtain ⟨_, rfl⟩ := hp; exact ha
 | (i, x) :: ps, n, r, h, h1, hp, ha => by
  simp only [litEls] at hp
  split at hp
  ·cases hc : purCells h (kds P e) x.cells with
   | none => simp [hc] at hp
   | some s =>
    obtain ⟨ys, h2⟩ := s
    simp only [hc, Option.bind_some] at hp
    cases hs : litEls P e h2 (n + 1) ps with
    | none => simp [hs] at hp
    | some z =>
     obtain ⟨zs, h3⟩ := z
     simp only [hs, Option.bind_some, Option.some.injEq, Prod.mk.injEq] at hp
     obtain ⟨_, rfl⟩ := hp
     exact litEls_al hs (purCells_al hc ha)
  ·simp at hp

theorem Res.trans {E1 : Env} {h2 : Heap} {x : PV} {v : Value} {w2 : World} (hT : Trans E E1) (h : Res P E1 h2 x v w2) : Res P E h2 x v w2 := by
 obtain ⟨E2, e1, e2, e3, e4, e5⟩ := h
 exact ⟨E2, e1, e2, hT.trans e3, e4, e5⟩

theorem run_buildSlice {t e : TypeId} {g : TypeInfo} {z : Value} {sz len : Nat} {vparts : Array (Nat × Value)} {vs : Array Value} (hu : P.underlying t = some (.slice e)) (hg : P.info? e = some g) (hgs : g.size = sz) (hz : g.zero = some z) (hsm : len * sz ≤ 16777216) (w : World)
  (hf : Instr.fill (fun i => some (i * sz, sz)) ((Array.range (len * sz)).map fun i => (if len * sz = 0 then (#[] : Array Value) else z.cells)[i % (if len * sz = 0 then (#[] : Array Value) else z.cells).size]!) vparts.toList = some vs) :
  (Instr.buildSlice t len vparts).run P w = .ok (.slice (some ⟨w.heap.size, 0, none⟩) len len) { w with heap := w.heap.push (.cells vs e) } := by
 have hsm' : ¬ (len * sz > 2 ^ 24) := by omega
 simp only [Instr.buildSlice, Sem.run_bind, run_underlying hu, Result.andThen_ok, run_sizeOf w hg, hgs, Sem.run_ite, if_neg hsm']
 by_cases h0 : len * sz = 0
 ·simp only [h0, if_true] at hf
  simp only [h0, if_true, Sem.run_pure, Result.andThen_ok, hf]
  simp [newRow]
 ·simp only [h0, if_false] at hf
  simp only [h0, if_false, Sem.run_pure, Result.andThen_ok, run_zeroValue w hg hz, hf]
  simp [newRow]

theorem map_range_some {β : Type} {f : Nat → β} {n j : Nat} {p : β} (h : ((List.range n).map f)[j]? = some p) : j < n ∧ p = f j := by
 rcases Nat.lt_or_ge j n with hh | hh
 ·simp [hh] at h
  exact ⟨hh, h.symm⟩
 ·rw [List.getElem?_eq_none (by simpa using hh)] at h
  cases h

theorem getD_replicate {α : Type} (n j : Nat) (x : α) : (List.replicate n x).getD j x = x := by
 simp only [List.getD, List.getElem?_replicate]
 split <;> rfl

theorem buildSlice_run (hI : Inv P E) {al : Option Nat} {t : TypeId} {len : Nat} {parts : List (Nat × PV)} {x : PV} {h' : Heap} (h : buildSliceOp P t len parts al E.h = some (x, h')) (hal : AlOK E.h al)
  {vparts : Array (Nat × Value)} (hl : parts.length = vparts.size) (hq : ∀ (j : Nat) (p : Nat × PV), parts[j]? = some p → ∃ q : Nat × Value, vparts.toList[j]? = some q ∧ q.1 = p.1 ∧ Rep P E p.2 q.2) :
  ∃ v w', (Instr.buildSlice t len vparts).run P E.w = .ok v w' ∧ Res P E h' x v w' := by
 unfold buildSliceOp at h
 cases hu : P.underlying t with
 | none => rw [hu] at h; simp at h
 | some d =>
  rw [hu] at h
  cases d <;> simp only [reduceCtorEq] at h
  case slice e =>
   cases hsz : elSize P e with
   | none => simp [hsz] at h
   | some sz =>
    simp only [hsz, Option.bind_some] at h
    obtain ⟨g, hg, hgs, hk, h0⟩ := elSize_spec hsz
    split at h
    ·rename_i hc
     obtain ⟨hlen, hsmall⟩ := hc
     cases hp : litEls P e E.h 0 parts with
     | none => simp [hp] at h
     | some r =>
      obtain ⟨es, h1⟩ := r
      simp only [hp, Option.bind_some, Option.some.injEq, Prod.mk.injEq] at h
      obtain ⟨rfl, rfl⟩ := h
      obtain ⟨E1, e1, e2, e3, e4, e5, e6, e7⟩ := litEls_env (vs := vparts.toList) hI hp (by simpa using hl) hq
      obtain ⟨_, z, hg', _, _, _, hz, _⟩ := elSize_zero hsz
      rw [hg] at hg'
      cases hg'
      have hel : es.length = len := by omega
      -- the pure cells
      obtain ⟨r, f1, f2, f3⟩ := fillEls (sz := sz) ((List.range len).map fun i => (i, es.getD i [])) 0 (List.replicate (len * sz) .top) (fun j p hj => by
       obtain ⟨hjl, rfl⟩ := map_range_some hj
       refine ⟨by simp, ?_⟩
       have := (cellsOK_getD (e6 j (by omega))).1
       simp only [List.getD] at this ⊢
       rw [this, ← hk]) (by simp)
      let zs : Array Value := (Array.range (len * sz)).map fun i => (if len * sz = 0 then (#[] : Array Value) else z.cells)[i % (if len * sz = 0 then (#[] : Array Value) else z.cells).size]!
      obtain ⟨vs, g1, g2⟩ := fill_rep (P := P) (E := E1) (place' := fun i => some (i * sz, sz)) (fun i r hr => hr) _ vparts.toList _ zs r
       (⟨by simp [zs], fun j hj => by rw [getD_replicate]; exact .top _⟩) (by simp; omega) (fun j p hj => by
        rw [List.map_map] at hj
        obtain ⟨hjl, rfl⟩ := map_range_some hj
        have hv : j < vparts.toList.length := by simp; omega
        refine ⟨vparts.toList[j], by simp [hv], ?_⟩
        obtain ⟨a, b⟩ := e7 j vparts.toList[j] (by simp [hv])
        exact ⟨by simpa using a, by simpa [PV.cells] using b⟩) f1
      have hrun := run_buildSlice (P := P) (vparts := vparts) hu hg hgs hz hsmall E.w g1
      refine ⟨_, _, hrun, ?_⟩
      have hA := add_arr e4 (al := al) (by rw [e2]; exact litEls_al hp hal) e e hsz (es := es) (c := vs) (w' := { E.w with heap := E.w.heap.push (.cells vs e) }) (blk := E.w.heap.size) (by rw [e1]; exact Grow.alloc _ _) (by rw [e1]; exact Nat.le_refl _)
       (by simp) (by rw [hel, ← g2.1, f2]; simp) e6 (fun i j hi hj => by
        have hlt : i * sz + j < len * sz := by
         have : (i + 1) * sz ≤ len * sz := Nat.mul_le_mul_right _ (by omega)
         rw [Nat.add_mul, Nat.one_mul] at this
         omega
        have := g2.2 (i * sz + j) (by rw [f2]; simpa using hlt)
        rw [f3, if_pos (by simp; omega)] at this
        have q1 : (i * sz + j - 0 * sz) / sz = i := by simp [Nat.mul_comm i sz, Nat.mul_add_div h0, Nat.div_eq_of_lt hj]
        have q2 : (i * sz + j - 0 * sz) % sz = j := by simp [Nat.mul_comm i sz, Nat.mul_add_mod, Nat.mod_eq_of_lt hj]
        rw [q1, q2] at this
        have hi' : i < len := by omega
        simpa [List.getD, hi'] using this) (cap := len) (by omega) (by rw [← g2.1, f2]; simp)
      rw [hel, e2] at hA
      exact hA.trans e3
    ·simp at h

end
end Go.Pu
