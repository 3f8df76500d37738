/- The pure machine, seventh part: cuts, conversions, structs that are built; blocks that are made. -/
import Derived.Test.YtkaljlpbmbfpgaaGreatDoorRF
set_option linter.unusedSimpArgs false
namespace Go.Pu

section
variable {P : Program} {E : Env}

theorem setCells_spec : ∀ (xs cs : List PV) (off : Nat), off + xs.length ≤ cs.length →
  (setCells cs off xs).length = cs.length ∧ ∀ k, (setCells cs off xs).getD k .top = if off ≤ k ∧ k < off + xs.length then xs.getD (k - off) .top else cs.getD k .top
 | [], cs, off, _ => ⟨rfl, fun k => by rw [if_neg (by simp only [List.length_nil]; omega)]; rfl⟩
 | x :: xs, cs, off, h => by
  obtain ⟨h1, h2⟩ := setCells_spec xs (cs.set off x) (off + 1) (by simp at h ⊢; omega)
  refine ⟨by simp [setCells, h1], fun k => ?_⟩
  simp only [setCells, h2, List.length_cons]
  by_cases e : off = k
  ·subst e
   rw [if_neg (by omega), if_pos (by omega), getD_set_same _ _ _ _ (by simp at h; omega)]
   simp
  ·rw [getD_set_other _ _ _ _ _ e]
   by_cases hk : off ≤ k ∧ k < off + (xs.length + 1)
   ·rw [if_pos (by omega), if_pos hk]
    obtain ⟨m, rfl⟩ : ∃ m, k = off + 1 + m := ⟨k - (off + 1), by omega⟩
    rw [show off + 1 + m - off = m + 1 by omega, show off + 1 + m - (off + 1) = m by omega]
    simp
   ·rw [if_neg (by omega), if_neg hk]

theorem zipFold_spec : ∀ (vs : List Value) (n off : Nat) (cells : Array Value), off + n + vs.length ≤ cells.size →
  ((vs.zipIdx n).foldl (fun cs (p : Value × Nat) => cs.setIfInBounds (off + p.2) p.1) cells).size = cells.size ∧
  ∀ k, ((vs.zipIdx n).foldl (fun cs (p : Value × Nat) => cs.setIfInBounds (off + p.2) p.1) cells).getD k undef = if off + n ≤ k ∧ k < off + n + vs.length then vs.getD (k - (off + n)) undef else cells.getD k undef
 | [], n, off, cells, _ => ⟨rfl, fun k => by rw [if_neg (by simp only [List.length_nil]; omega)]; rfl⟩
 | v :: vs, n, off, cells, h => by
  obtain ⟨h1, h2⟩ := zipFold_spec vs (n + 1) off (cells.setIfInBounds (off + n) v) (by simp at h ⊢; omega)
  simp only [List.zipIdx_cons, List.foldl_cons]
  refine ⟨by rw [h1]; simp, fun k => ?_⟩
  rw [h2, List.length_cons]
  have hs : off + n < cells.size := by simp at h; omega
  by_cases e : off + n = k
  ·subst e
   rw [if_neg (by omega), if_pos (by omega)]
   simp [Array.getD, hs]
  ·have h3 : (cells.setIfInBounds (off + n) v).getD k undef = cells.getD k undef := by
    by_cases hk : k < cells.size
    ·simp [Array.getD, hk, Array.getElem_setIfInBounds, e]
    ·simp [Array.getD, hk]
   rw [h3]
   by_cases hk : off + n ≤ k ∧ k < off + n + (vs.length + 1)
   ·rw [if_pos (by omega), if_pos hk]
    obtain ⟨m, rfl⟩ : ∃ m, k = off + (n + 1) + m := ⟨k - (off + (n + 1)), by omega⟩
    rw [show off + (n + 1) + m - (off + n) = m + 1 by omega, show off + (n + 1) + m - (off + (n + 1)) = m by omega]
    simp
   ·rw [if_neg (by omega), if_neg hk]

/-- cells that stand for others, one by one -/
def RepCs (P : Program) (E : Env) (cs : List PV) (vs : Array Value) : Prop := cs.length = vs.size ∧ ∀ j, j < cs.length → Rep P E (cs.getD j .top) (vs.getD j undef)

theorem rep_cells {x : PV} {v : Value} (h : Rep P E x v) (hx : (∃ cs, x = .agg cs) ∨ v.cells = #[v]) : RepCs P E x.cells v.cells := by
 rcases hx with ⟨cs, rfl⟩ | hv
 ·cases h with
  | agg _ vs hl hr => exact ⟨hl, hr⟩
 ·by_cases hx : ∃ cs, x = .agg cs
  ·obtain ⟨cs, rfl⟩ := hx
   cases h with
   | agg _ vs hl hr => exact ⟨hl, hr⟩
  ·have : x.cells = [x] := by cases x <;> first | rfl | exact absurd ⟨_, rfl⟩ hx
   rw [this, hv]
   refine ⟨rfl, fun j hj => ?_⟩
   obtain rfl : j = 0 := by simpa using hj
   simpa using h

theorem okv_cells {x : PV} {v : Value} (h : Rep P E x v) (hx : okv E.h x = true) : RepCs P E x.cells v.cells := by
 cases h with
 | agg cs vs hl hr => exact ⟨hl, hr⟩
 | top => simp [okv] at hx
 | tuple => simp [okv] at hx
 | all b n v hn hh =>
  have h0 := Rep.all (P := P) (E := E) b n v hn hh
  refine rep_cells h0 (.inr ?_)
  simp only [okv] at hx
  unfold SlcAt at hh
  split at hx
  ·rename_i hb
   rw [hb] at hh
   obtain ⟨_, sz, A, cap, _, rfl, _⟩ := hh
   rfl
  ·simp at hx
 | own b off n v hh =>
  have h0 := Rep.own (P := P) (E := E) b off n v hh
  refine rep_cells h0 (.inr ?_)
  simp only [okv] at hx
  unfold SlcAt at hh
  split at hx
  ·rename_i hb
   rw [hb] at hh
   obtain ⟨_, sz, A, cap, _, rfl, _⟩ := hh
   rfl
  ·simp at hx
 | ptr b off v hh =>
  have h0 := Rep.ptr (P := P) (E := E) b off v hh
  obtain ⟨_, _, rfl⟩ := alive_ptr (by simpa only [okv] using hx) h0
  exact rep_cells h0 (.inr rfl)
 | aptr b i off v hh =>
  have h0 := Rep.aptr (P := P) (E := E) b i off v hh
  obtain ⟨_, _, rfl⟩ := alive_ptr (by simpa only [okv] using hx) h0
  exact rep_cells h0 (.inr rfl)
 | bool b => exact rep_cells (.bool b) (.inr rfl)
 | int k n => exact rep_cells (.int k n) (.inr rfl)
 | str s => exact rep_cells (.str s) (.inr rfl)
 | nils => exact rep_cells .nils (.inr rfl)
 | lst0 t A cap hA => exact rep_cells (.lst0 t A cap hA) (.inr rfl)
 | lst t es blk o cap sz c T fz hs hb him hcap hlen hk hr => exact rep_cells (.lst t es blk o cap sz c T fz hs hb him hcap hlen hk hr) (.inr rfl)
 | nilp => exact rep_cells .nilp (.inr rfl)
 | eptr t cs off blk o c T fz hb him hlen hk hr => exact rep_cells (.eptr t cs off blk o c T fz hb him hlen hk hr) (.inr rfl)
 | fn f cs vs hl hh => exact rep_cells (.fn f cs vs hl hh) (.inr rfl)
 | nilfn => exact rep_cells .nilfn (.inr rfl)
 | iface t x v hh => exact rep_cells (.iface t x v hh) (.inr rfl)
 | zcap => simp [okv] at hx
 | zany => simp [okv] at hx
 | nili => exact rep_cells .nili (.inr rfl)
 | mp b v hh =>
  have h0 := Rep.mp (P := P) (E := E) b v hh
  simp only [okv] at hx
  unfold MapPtr at hh
  split at hx
  ·rename_i hb
   rw [hb] at hh
   obtain ⟨_, _, rfl⟩ := hh
   exact rep_cells h0 (.inr rfl)
  ·cases hx

theorem fill_rep {place : Nat → Option (Nat × Nat)} {place' : Nat → Option (Nat × Nat)} (hp : ∀ i r, place i = some r → place' i = some r) :
  ∀ (parts : List (Nat × PV)) (vparts : List (Nat × Value)) (cs : List PV) (vs : Array Value) (r : List PV), RepCs P E cs vs → parts.length = vparts.length →
   (∀ (j : Nat) (p : Nat × PV), parts[j]? = some p → ∃ q : Nat × Value, vparts[j]? = some q ∧ q.1 = p.1 ∧ RepCs P E p.2.cells q.2.cells) →
   fillPV place cs parts = some r → ∃ vs', Instr.fill place' vs vparts = some vs' ∧ RepCs P E r vs'
 | [], [], cs, vs, r, hc, _, _, h => by simp [fillPV] at h; subst h; exact ⟨vs, rfl, hc⟩
 | [], _ :: _, _, _, _, _, hl, _, _ => by simp at hl
 | _ :: _, [], _, _, _, _, hl, _, _ => by simp at hl
 | (i, x) :: ps, (i', v) :: qs, cs, vs, r, hc, hl, hq, h => by
  obtain ⟨q, e1, e2, e3⟩ := hq 0 (i, x) rfl
  simp at e1
  subst e1
  simp only at e2 e3
  subst e2
  simp only [fillPV] at h
  cases hpl : place i' with
  | none => simp [hpl] at h
  | some os =>
   obtain ⟨off, size⟩ := os
   simp only [hpl] at h
   split at h
   ·rename_i hcnd
    obtain ⟨hs, hle⟩ := hcnd
    simp only [Instr.fill, hp _ _ hpl]
    have hvs : v.cells.size = size := by rw [← e3.1]; exact hs
    have hvs2 : off + v.cells.size ≤ vs.size := by rw [hvs, ← hc.1]; exact hle
    rw [if_neg (by simp; omega)]
    obtain ⟨s1, s2⟩ := setCells_spec x.cells cs off (by omega)
    have z := zipFold_spec v.cells.toList 0 off vs (by simpa using hvs2)
    have ez : (v.cells.zipIdx.foldl (fun cs (p : Value × Nat) => cs.setIfInBounds (off + p.2) p.1) vs) = ((v.cells.toList.zipIdx 0).foldl (fun cs (p : Value × Nat) => cs.setIfInBounds (off + p.2) p.1) vs) := by
     rw [← Array.foldl_toList, Array.toList_zipIdx]
    refine fill_rep hp ps qs _ _ r ⟨?_, fun j hj => ?_⟩ (by simpa using hl) (fun j p hj => hq (j + 1) p (by simpa using hj)) h
    ·show _ = (v.cells.zipIdx.foldl (fun cs (p : Value × Nat) => cs.setIfInBounds (off + p.2) p.1) vs).size
     rw [ez, z.1, s1, hc.1]
    ·show Rep P E _ ((v.cells.zipIdx.foldl (fun cs (p : Value × Nat) => cs.setIfInBounds (off + p.2) p.1) vs).getD j undef)
     rw [ez, z.2, s2]
     simp only [Nat.add_zero, Array.length_toList]
     rw [s1] at hj
     by_cases hk : off ≤ j ∧ j < off + x.cells.length
     ·rw [if_pos hk, if_pos (by rw [← e3.1]; exact hk)]
      have := e3.2 (j - off) (by omega)
      have e : v.cells.toList.getD (j - off) undef = v.cells.getD (j - off) undef := by
       rw [List.getD, Array.getElem?_toList]
       by_cases hb : j - off < v.cells.size
       ·rw [Array.getElem?_eq_getElem hb, Array.getD, dif_pos hb]; rfl
       ·rw [Array.getElem?_eq_none (by omega), Array.getD, dif_neg hb]; rfl
      rw [e]
      exact this
     ·rw [if_neg hk, if_neg (by rw [← e3.1]; exact hk)]
      exact hc.2 j hj
   ·simp at h

theorem run_mapM {α β : Type} (f : α → Sem β) (g : α → β) (w : World) : ∀ (l : List α), (∀ x ∈ l, (f x).run P w = .ok (g x) w) → (l.mapM f).run P w = .ok (l.map g) w
 | [], _ => by simp
 | x :: l, h => by
  have ih := run_mapM f g w l (fun y hy => h y (by simp [hy]))
  simp [List.mapM_cons, h x (by simp), ih]

theorem ofConst_cells (v : Value) : RepCs P E (ofConst v).cells v.cells := by
 cases v with
 | agg cs => exact (by have := rep_const (P := P) (E := E) (.agg cs); cases this with | agg _ _ hl hr => exact ⟨hl, hr⟩)
 | _ =>
  refine rep_cells (rep_const _) (.inr rfl)

theorem underlying_all {fs : Array Field} (h : fs.toList.all (fun f => (P.info? f.type).isSome) = true) (w : World) :
  (fs.mapM fun f => (do pure (f.offset, ← sizeOf f.type) : Sem (Nat × Nat))).run P w = .ok (fs.map fun f => (f.offset, ((P.info? f.type).map (·.size)).getD 0)) w := by
 have h1 : (fs.mapM fun f => (do pure (f.offset, ← sizeOf f.type) : Sem (Nat × Nat))) = List.toArray <$> (fs.toList.mapM fun f => (do pure (f.offset, ← sizeOf f.type) : Sem (Nat × Nat))) := by
  rw [Array.mapM_eq_mapM_toList]
 rw [h1, Sem.run_map, run_mapM (P := P) _ (fun f => (f.offset, ((P.info? f.type).map (·.size)).getD 0)) w fs.toList]
 ·simp
  rw [← Array.toList_map]
 ·intro f hf
  have := List.all_eq_true.1 h f hf
  obtain ⟨i, hi⟩ := Option.isSome_iff_exists.1 this
  simp [run_sizeOf w hi, hi]

theorem buildOp_run {t : TypeId} {parts : List (Nat × PV)} {r : PV} (h : buildOp P t E.h parts = some r) {vparts : Array (Nat × Value)} (hl : parts.length = vparts.size)
  (hq : ∀ (j : Nat) (p : Nat × PV), parts[j]? = some p → ∃ q : Nat × Value, vparts.toList[j]? = some q ∧ q.1 = p.1 ∧ Rep P E p.2 q.2) (w : World) :
  ∃ u, (Instr.build t vparts).run P w = .ok u w ∧ Rep P E r u := by
 unfold buildOp at h
 split at h
 ·simp at h
 ·rename_i hok
  have hok' := List.all_eq_true.1 (by simpa using hok : parts.all (fun p => okv E.h p.2) = true)
  have hq' : ∀ (j : Nat) (p : Nat × PV), parts[j]? = some p → ∃ q : Nat × Value, vparts.toList[j]? = some q ∧ q.1 = p.1 ∧ RepCs P E p.2.cells q.2.cells := fun j p hj => by
   obtain ⟨q, a, b, c⟩ := hq j p hj
   exact ⟨q, a, b, okv_cells c (hok' p (List.mem_of_getElem? hj))⟩
  cases hu : P.underlying t with
  | none => rw [hu] at h; simp at h
  | some d =>
   obtain ⟨i, hi⟩ := underlying_info hu
   rw [hu, hi] at h
   cases d <;> simp only [reduceCtorEq] at h
   case struct fs =>
    split at h
    ·simp at h
    ·rename_i hall
     cases hz : i.zero with
     | none => simp [hz] at h
     | some z =>
      simp only [hz, Option.map_some, Option.bind_some] at h
      cases hf : fillPV (fun j => (fs[j]?).map fun f => (f.offset, ((P.info? f.type).map (·.size)).getD 0)) (ofConst z).cells parts with
      | none => simp [hf] at h
      | some cs =>
       simp only [hf, Option.map_some, Option.some.injEq] at h
       subst h
       obtain ⟨vs, e1, e2⟩ := fill_rep (P := P) (E := E) (place' := fun j => (fs.map fun f => (f.offset, ((P.info? f.type).map (·.size)).getD 0))[j]?) (fun j r hj => by simpa using hj) parts vparts.toList _ z.cells cs (ofConst_cells z) (by simpa using hl) hq' hf
       refine ⟨.agg vs, ?_, .agg cs vs e2.1 e2.2⟩
       have hm := underlying_all (P := P) (fs := fs) (by cases hb : fs.toList.all (fun f => (P.info? f.type).isSome) <;> simp_all) w
       simp only [Instr.build, Sem.run_bind, run_zeroValue w hi hz, Result.andThen_ok, run_underlying hu, hm]
       rw [e1]
       rfl
   case array len e =>
    cases hg : P.info? e with
    | none => simp [hg] at h
    | some g =>
     simp only [hg, Option.bind_some] at h
     cases hz : i.zero with
     | none => simp [hz] at h
     | some z =>
      simp only [hz, Option.map_some, Option.bind_some] at h
      cases hf : fillPV (fun j => some (j * g.size, g.size)) (ofConst z).cells parts with
      | none => simp [hf] at h
      | some cs =>
       simp only [hf, Option.map_some, Option.some.injEq] at h
       subst h
       obtain ⟨vs, e1, e2⟩ := fill_rep (P := P) (E := E) (place' := fun j => some (j * g.size, g.size)) (fun j r hj => hj) parts vparts.toList _ z.cells cs (ofConst_cells z) (by simpa using hl) hq' hf
       refine ⟨.agg vs, ?_, .agg cs vs e2.1 e2.2⟩
       simp only [Instr.build, Sem.run_bind, run_zeroValue w hi hz, Result.andThen_ok, run_underlying hu, run_sizeOf w hg]
       rw [e1]
       rfl

end
end Go.Pu
