/- Rows of one's own that the library changes in place: a new row in the old one's memory; copy, append, clear at elements of several cells. -/
import Derived.Test.YtinnnhiaamjjlaaTG
import Derived.WalkKit
import Derived.Lib.Walk
import Derived.Shelf.RegionOpenPlain
set_option linter.unusedSimpArgs false
set_option linter.unusedVariables false
namespace Go.Pu
open Go.RowKit

section
variable {P : Program} {E : Env}

/-- the row is read no more; its memory holds another one -/
theorem repl_row (hI : Inv P E) {e : TypeId} {sz : Nat} (hs : elSize P e = some sz) {b : Nat} {es0 : List (List PV)} (hb : E.h[b]? = some (.arr e es0 true))
    {blk o : Nat} {c c' : Array Value} {T : TypeId} (hρ : E.ρ b = some (blk, o)) (hw : E.w.heap[blk]? = some (.cells c T (0, 0))) {w' : World} (hw' : w'.heap[blk]? = some (.cells c' T (0, 0))) (hsz : c'.size = c.size)
    (hgs : E.w.heap.size ≤ w'.heap.size) (hos : w'.os = E.w.os) (htape : w'.tape = E.w.tape) (hout : w'.output = E.w.output) (hold : ∀ k, k < E.w.heap.size → k ≠ blk → w'.heap[k]? = E.w.heap[k]?)
    {es : List (List PV)} (hk : ∀ i, i < es.length → cellsOK (kds P e) (es.getD i []) = true) (hfit : o + es.length * sz ≤ c.size)
    (hrep : ∀ i j, i < es.length → j < sz → Rep P E ((es.getD i []).getD j .top) (c'.getD (o + i * sz + j) undef)) {cap : Nat} (hcap : es.length ≤ cap) (hcs : o + cap * sz ≤ c.size) :
    Res P E (E.h.set b .dead ++ [.arr e es true]) (.all E.h.length) (.slice (some ⟨blk, o, none⟩) es.length cap) w' := by
  have hlt := lt_of_some hb
  have hblt := heap_lt hw
  generalize hid : E.h.length = id
  have hidb : id ≠ b := by omega
  let h' : Heap := E.h.set b .dead ++ [.arr e es true]
  have hbd : h'[b]? = some .dead := by
    show (E.h.set b .dead ++ [_])[b]? = _
    rw [List.getElem?_append_left (by simpa using hlt)]
    simp [hlt]
  have hid1 : h'[id]? = some (.arr e es true) := by
    show (E.h.set b .dead ++ [_])[id]? = _
    rw [List.getElem?_append_right (by simp [hid])]
    simp [hid]
  have holdh : ∀ i : Nat, i ≠ id → i ≠ b → h'[i]? = E.h[i]? := by
    intro i h1 h2
    show (E.h.set b .dead ++ [_])[i]? = _
    rcases Nat.lt_or_ge i E.h.length with h3 | h3
    · rw [List.getElem?_append_left (by simpa using h3), List.getElem?_set, if_neg (Ne.symm h2)]
    · rw [List.getElem?_eq_none (by simp; omega), List.getElem?_eq_none h3]
  have hE3 : E.h[id]? = none := by rw [← hid]; simp
  have hlB : live E.h[b]? := .inl ⟨e, es0, hb⟩
  have hownb : OwnB E b blk := .inl ⟨o, hρ, hlB⟩
  have hownB : Owned E blk := ⟨b, hownb⟩
  let E' : Env := { w := w', h := h', ρ := upd E.ρ id (some (blk, o)), im := E.im }
  have hρ' : E'.ρ id = some (blk, o) := upd_same _ _ _
  have hρo : ∀ i, i ≠ id → E'.ρ i = E.ρ i := fun i hi => upd_other _ _ _ _ hi
  have conv : ∀ i k, i ≠ id → OwnB E' i k → OwnB E i k ∧ i ≠ b := by
    intro i k h1 h
    by_cases e2 : i = b
    · subst e2
      have h1 : E'.h[i]? = some .dead := hbd
      rcases h with ⟨o, _, ⟨_, _, hh⟩ | ⟨_, _, hh⟩⟩ | ⟨_, _, _, _, _, _, hh, _⟩ <;> rw [h1] at hh <;> cases hh
    · refine ⟨OwnB.keep (E := E) (E' := E') (holdh i h1 e2) (hρo i h1) (fun ob hρo' hbm => ?_) h, e2⟩
      obtain ⟨eo, clock, h2⟩ := hI.mapOb hρo' hbm
      refine hold ob (heap_lt h2) fun ek => ?_
      subst ek
      rw [hw] at h2
      cases h2
  have convid : ∀ k, OwnB E' id k → k = blk := by
    intro k h
    have h1 : E'.h[id]? = some (.arr e es true) := hid1
    rcases h with ⟨o', hr', _⟩ | ⟨_, _, _, _, _, _, hh, _⟩
    · rw [hρ'] at hr'; cases hr'; rfl
    · rw [h1] at hh; cases hh
  have hT : Trans E E' := by
    refine ⟨fun i => ?_, fun i hi hr hd => ?_, fun _ h => h, hgs, hos, htape, hout, fun k hkl hk => hold k hkl fun e2 => hk (e2 ▸ hownB), fun k c0 T0 fz hk => ?_, fun k _ hk => ?_, fun _ _ h => .inl h⟩
    · show Compat E.h[i]? h'[i]?
      by_cases e1 : i = id
      · subst e1; rw [hE3]; trivial
      · by_cases e2 : i = b
        · subst e2; rw [hb, hbd]; trivial
        · rw [holdh i e1 e2]; exact Compat.refl _
    · exact hρo i (by omega)
    · by_cases e2 : k = blk
      · subst e2
        rw [hw] at hk
        cases hk
        exact ⟨_, hw', hsz⟩
      · exact ⟨c0, by rw [← hk]; exact hold k (heap_lt hk) e2, rfl⟩
    · obtain ⟨i, ho⟩ := hk
      by_cases e1 : i = id
      · subst e1
        rw [convid k ho]
        exact hownB
      · exact ⟨i, (conv i k e1 ho).1⟩
  have hB := hI.blk b
  unfold BlkAt at hB
  rw [hb] at hB
  simp only [hρ] at hB
  obtain ⟨_, sz', c1, T1, hs', h2, _, _, h5, _⟩ := hB
  have hblk : BlkAt P E' id := by
    unfold BlkAt
    rw [show E'.h[id]? = some (.arr e es true) from hid1]
    refine ⟨hk, ?_⟩
    rw [hρ']
    exact ⟨sz, c', T, hs, hw', by omega, fun i j hi hj => (hrep i j hi hj).mono hI hT, fun _ => h5 trivial, fun h => by cases h⟩
  refine ⟨E', rfl, rfl, hT, ⟨fun i => ?_, fun i j k hi hj => ?_, fun k hk => Nat.lt_of_lt_of_le (hI.imlt k hk) hgs, hI.tabT hT⟩, .all _ es.length _ ?_ ?_⟩
  · by_cases e1 : i = id
    · subst e1; exact hblk
    · by_cases e2 : i = b
      · subst e2
        unfold BlkAt
        rw [show E'.h[i]? = some .dead from hbd]
        trivial
      · exact (hI.blk i).keep hI hT (holdh i e1 e2) (hρo i e1) (fun k hh hkl => hold k hkl (hh.ne hI hownb e2)) (fun _ _ h => h)
  · by_cases e1 : i = id <;> by_cases e2 : j = id
    · rw [e1, e2]
    · subst e1
      have := convid k hi
      subst this
      obtain ⟨k1, k2⟩ := conv j k e2 hj
      exact absurd (hI.own j b k k1 hownb) k2
    · subst e2
      have := convid k hj
      subst this
      obtain ⟨k1, k2⟩ := conv i k e1 hi
      exact absurd (hI.own i b k k1 hownb) k2
    · exact hI.own i j k (conv i k e1 hi).1 (conv j k e2 hj).1
  · intro t' es' l' e3
    rw [show E'.h[id]? = some (.arr e es true) from hid1] at e3
    cases e3
    rfl
  · unfold SlcAt
    rw [show E'.h[id]? = some (.arr e es true) from hid1]
    refine ⟨by omega, sz, _, cap, hs, rfl, hcap, ?_⟩
    by_cases h0 : cap = 0
    · exact .inl h0
    · exact .inr ⟨blk, o, _, T, hρ', by simp, hw', by rw [hsz]; simpa using hcs⟩

/-- copy, at elements of some cells -/
theorem run_copy_rows {w : World} {dT sT ty elem : TypeId} {g : TypeInfo} {sz : Nat} (hu : P.underlying dT = some (.slice elem)) (hg : P.info? elem = some g) (hgs : g.size = sz) {b o dLen dCap sb so sLen sCap : Nat} {c : Array Value} {T : TypeId}
    (hb : w.heap[b]? = some (.cells c T (0, 0))) {cs : List Value} (hlen : cs.length = Nat.min sLen dLen * sz) (hsrc : ∀ j v, cs[j]? = some v → w.cell? (Addr.add ⟨sb, so, none⟩ j) = some v) (hfit : o + cs.length ≤ c.size) (h1 : ∀ v ∈ cs, v.oneCell' = true) :
    (Builtin.copy_ #[dT, sT] ty #[.slice (some ⟨b, o, none⟩) dLen dCap, .slice (some ⟨sb, so, none⟩) sLen sCap]).run P w = .ok (goInt (Nat.min sLen dLen)) (w.setRow b (wr c o cs)) := by
  have hl := run_loadCells_list (P := P) w ⟨sb, so, none⟩ cs hsrc
  have hst := run_storeCells_at P b o T cs 0 c w hb (by simpa using hfit) h1
  rw [hlen] at hl
  have hst' : (storeCells ⟨b, o, none⟩ cs).run P w = .ok () (w.setRow b (wr c o cs)) := hst
  simp [Builtin.copy_, run_underlying hu, Builtin.lenOf, Builtin.firstCells, run_sizeOf w hg, hgs, hl, hst']

/-- clear, at elements of some cells -/
theorem run_clear_rows {w : World} {t e ty : TypeId} {g : TypeInfo} {z : Value} (ht : P.underlying t = some (.slice e)) (hg : P.info? e = some g) (hz : g.zero = some z) {b o n c : Nat} {cc : Array Value} {T : TypeId} (hn : 0 < n)
    (hb : w.heap[b]? = some (.cells cc T (0, 0))) (hfit : o + n * z.cells.size ≤ cc.size) (h1 : ∀ v ∈ (Builtin.zeroCells z.cells n).toList, v.oneCell' = true) :
    (Builtin.clear_ #[t] ty #[.slice (some ⟨b, o, none⟩) n c]).run P w = .ok (.tuple #[]) (w.setRow b (wr cc o (Builtin.zeroCells z.cells n).toList)) := by
  have hst := run_storeCells_at P b o T (Builtin.zeroCells z.cells n).toList 0 cc w hb (by simpa [Builtin.zeroCells] using hfit) h1
  have hst' : (storeCells ⟨b, o, none⟩ (Builtin.zeroCells z.cells n).toList).run P w = .ok () (w.setRow b (wr cc o (Builtin.zeroCells z.cells n).toList)) := hst
  obtain ⟨m, rfl⟩ : ∃ m, n = m + 1 := ⟨n - 1, by omega⟩
  simp [Builtin.clear_, run_underlying ht, run_zeroValue w hg hz, hst']

end

theorem wpList_copy_at {P : Program} {w : World} {ops : Array Oper} {rest : List Oper} {o : Oper} {a : Act} {Q : Exit → Act → World → Prop} (hgd : o.guard = none) (d s : Operand) (t t' : TypeId)
    (ho : o.op = .call { callee := .builtin .copy, args := #[d, s], argTypes := #[t, t'] }) (v u : Value) (hd : a.eval d = v) (hs : a.eval s = u) {v' : Value} {w' : World}
    (hr : (Builtin.copy_ #[t, t'] o.type #[v, u]).run P w = .ok v' w') (h : wpList P ops Q rest (a.put o.dst v') w') : wpList P ops Q (o :: rest) a w :=
  wpList_plain hgd fun _ hK => by
    unfold Oper.wp execOp
    simp only [ho, resolve, invoke, builtin, Sem.run_bind, Sem.run_pure, Result.andThen_ok, List.map_toArray, List.map_cons, List.map_nil, hd, hs, hr]
    exact hK _ _ h

theorem step_copy_at {P : Program} {ops : Array Oper} {o : Oper} {a : Act} {w : World} {K : Act → World → Prop} {Q : Exit → Act → World → Prop} {Z : Prop}
    (hg : o.guard = none) (d x : Operand) (dT sT : TypeId) (hop : o.op = Op.call { callee := Callee.builtin Builtin.copy, args := #[d, x], argTypes := #[dT, sT] })
    (v u : Value) (hd : a.eval d = v) (hx : a.eval x = u) {v' : Value} {w' : World} (hr : (Builtin.copy_ #[dT, sT] o.type #[v, u]).run P w = .ok v' w') (hK : K (a.put o.dst v') w') :
    if Region.wanted o (yielded ops a.tmps) = true then Oper.wp P o a w K Q else Z := by
  have hw : Region.wanted o (yielded ops a.tmps) = true := by simp [Region.wanted, hg]
  rw [if_pos hw]
  unfold Oper.wp
  simp [execOp, hop, resolve, invoke, builtin, hd, hx, hr, Result.andThen]
  exact hK

theorem step_append_at {P : Program} {ops : Array Oper} {o : Oper} {a : Act} {w : World} {K : Act → World → Prop} {Q : Exit → Act → World → Prop} {Z : Prop}
    (hg : o.guard = none) (d x : Operand) (dT sT : TypeId) (hop : o.op = Op.call { callee := Callee.builtin Builtin.append, args := #[d, x], argTypes := #[dT, sT] })
    (v u : Value) (hd : a.eval d = v) (hx : a.eval x = u) {v' : Value} {w' : World} (hr : (Builtin.append_ #[dT, sT] o.type #[v, u]).run P w = .ok v' w') (hK : K (a.put o.dst v') w') :
    if Region.wanted o (yielded ops a.tmps) = true then Oper.wp P o a w K Q else Z := by
  have hw : Region.wanted o (yielded ops a.tmps) = true := by simp [Region.wanted, hg]
  rw [if_pos hw]
  unfold Oper.wp
  simp [execOp, hop, resolve, invoke, builtin, hd, hx, hr, Result.andThen]
  exact hK

theorem step_clear_at {P : Program} {ops : Array Oper} {o : Oper} {a : Act} {w : World} {K : Act → World → Prop} {Q : Exit → Act → World → Prop} {Z : Prop}
    (hg : o.guard = none) (d : Operand) (dT : TypeId) (hop : o.op = Op.call { callee := Callee.builtin Builtin.clear, args := #[d], argTypes := #[dT] })
    (v : Value) (hd : a.eval d = v) {v' : Value} {w' : World} (hr : (Builtin.clear_ #[dT] o.type #[v]).run P w = .ok v' w') (hK : K (a.put o.dst v') w') :
    if Region.wanted o (yielded ops a.tmps) = true then Oper.wp P o a w K Q else Z := by
  have hw : Region.wanted o (yielded ops a.tmps) = true := by simp [Region.wanted, hg]
  rw [if_pos hw]
  unfold Oper.wp
  simp [execOp, hop, resolve, invoke, builtin, hd, hr, Result.andThen]
  exact hK

end Go.Pu
