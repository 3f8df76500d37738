/- The pure machine, fourth part: operations that only reckon or read. -/
import Derived.Test.YtkaljlpbmbfpgaaGreatDoorRC
import Derived.Laws.StructEq
import Derived.Laws.Append
import Derived.Laws.CopyRow
import Derived.Laws.Cells
set_option linter.unusedSimpArgs false
namespace Go.Pu

section
variable {P : Program} {E : Env} (w : World)

theorem run_typeInfo {t : TypeId} {i : TypeInfo} (h : P.info? t = some i) : (typeInfo t).run P w = .ok i w := by
 simp [typeInfo, h]

theorem run_sizeOf {t : TypeId} {i : TypeInfo} (h : P.info? t = some i) : (sizeOf t).run P w = .ok i.size w := by
 simp [sizeOf, run_typeInfo w h]

theorem run_zeroValue {t : TypeId} {i : TypeInfo} {z : Value} (h : P.info? t = some i) (hz : i.zero = some z) : (zeroValue t).run P w = .ok z w := by
 simp [zeroValue, run_typeInfo w h, hz]

def aggT (d : TypeDesc) : Bool := match d with | .struct _ | .array _ _ => true | _ => false

theorem run_isAgg {t : TypeId} {d : TypeDesc} (h : P.underlying t = some d) : (isAgg t).run P w = .ok (aggT d) w := by
 simp only [isAgg, Sem.run_bind, run_underlying h, Result.andThen_ok]
 cases d <;> rfl

theorem cell_of {w : World} {blk k : Nat} {c : Array Value} {T : TypeId} {fz : Nat × Nat} (h : w.heap[blk]? = some (.cells c T fz)) (hk : k < c.size) :
  w.cell? ⟨blk, k, none⟩ = some (c.getD k undef) := by
 simp [World.cell?, h, Array.getElem?_eq_getElem hk, Array.getD, hk]

theorem run_loadCells_at {blk o n : Nat} {c : Array Value} {T : TypeId} {fz : Nat × Nat} (h : w.heap[blk]? = some (.cells c T fz)) (hn : o + n ≤ c.size) :
  (loadCells ⟨blk, o, none⟩ n).run P w = .ok ((List.range n).map fun j => c.getD (o + j) undef).toArray w :=
 run_loadCells w _ n _ fun j hj => by rw [Addr.add_lit, cell_of h (by omega)]

theorem run_load_at {blk o : Nat} {c : Array Value} {T : TypeId} {fz : Nat × Nat} (h : w.heap[blk]? = some (.cells c T fz)) (hn : o < c.size) :
  (load ⟨blk, o, none⟩).run P w = .ok (c.getD o undef) w := by
 rw [run_load, cell_of h hn]

theorem getD_map_range (n : Nat) (f : Nat → Value) (j : Nat) (hj : j < n) : ((List.range n).map f).toArray.getD j undef = f j := by
 simp [Array.getD, hj]

/-- a variable that is loaded: its cells lie in a block -/
theorem run_loadVar_at {t : TypeId} {d : TypeDesc} {i : TypeInfo} (hd : P.underlying t = some d) (hi : P.info? t = some i) {blk o : Nat} {c : Array Value} {T : TypeId} {fz : Nat × Nat}
  (h : w.heap[blk]? = some (.cells c T fz)) (hn : o + (if aggT d then i.size else 1) ≤ c.size) :
  (loadVar t ⟨blk, o, none⟩).run P w = .ok (if aggT d then .agg ((List.range i.size).map fun j => c.getD (o + j) undef).toArray else c.getD o undef) w := by
 simp only [loadVar, Sem.run_bind, run_isAgg w hd, Result.andThen_ok, Sem.run_ite]
 cases ha : aggT d
 ·simp only [ha] at hn
  simp only [Bool.false_eq_true, if_false] at hn ⊢
  exact run_load_at w h (by omega)
 ·simp only [ha, if_true] at hn
  simp only [if_true, Sem.run_bind, run_sizeOf w hi, Result.andThen_ok, run_loadCells_at w h hn, Sem.run_pure]

theorem loadBox_eq {t : TypeId} {d : TypeDesc} {i : TypeInfo} (hd : P.underlying t = some d) (hi : P.info? t = some i) (cs : List PV) (off : Nat) :
  loadBox P t cs off = if aggT d then (if off + i.size ≤ cs.length then some (.agg ((cs.drop off).take i.size)) else none) else if off < cs.length then some (cs.getD off .top) else none := by
 unfold loadBox
 rw [hd, hi]
 cases d <;> rfl

theorem underlying_info {t : TypeId} {d : TypeDesc} (h : P.underlying t = some d) : ∃ i, P.info? t = some i := by
 unfold Program.underlying at h
 cases hi : P.info? t with
 | some i => exact ⟨i, rfl⟩
 | none => simp [hi] at h

theorem loadBox_some {t : TypeId} {cs : List PV} {off : Nat} {x : PV} (h : loadBox P t cs off = some x) : ∃ d i, P.underlying t = some d ∧ P.info? t = some i := by
 unfold loadBox at h
 cases hd : P.underlying t with
 | none => rw [hd] at h; simp at h
 | some d => obtain ⟨i, hi⟩ := underlying_info hd; exact ⟨d, i, rfl, hi⟩

theorem getD_drop_take (cs : List PV) (off n j : Nat) (hj : j < n) : ((cs.drop off).take n).getD j .top = cs.getD (off + j) .top := by
 simp [List.getD, List.getElem?_take, hj, List.getElem?_drop]

/-- what is read of cells that are told one by one -/
theorem loadBox_rep {t : TypeId} {cs : List PV} {off : Nat} {x : PV} (h : loadBox P t cs off = some x) {blk o : Nat} {c : Array Value} {T : TypeId} {fz : Nat × Nat}
  (hb : w.heap[blk]? = some (.cells c T fz)) (hn : o + cs.length ≤ c.size) (hr : ∀ j, j < cs.length → Rep P E (cs.getD j .top) (c.getD (o + j) undef)) :
  ∃ v, (loadVar t ⟨blk, o + off, none⟩).run P w = .ok v w ∧ Rep P E x v := by
 obtain ⟨d, i, hd, hi⟩ := loadBox_some h
 rw [loadBox_eq hd hi] at h
 cases ha : aggT d
 ·simp only [ha, Bool.false_eq_true, if_false] at h
  split at h
  ·rename_i hlt
   obtain rfl := Option.some.inj h
   refine ⟨c.getD (o + off) undef, ?_, hr off hlt⟩
   rw [run_loadVar_at w hd hi hb (by simp [ha]; omega), ha]
   simp
  ·simp at h
 ·simp only [ha, if_true] at h
  split at h
  ·rename_i hle
   obtain rfl := Option.some.inj h
   refine ⟨.agg ((List.range i.size).map fun j => c.getD (o + off + j) undef).toArray, ?_, ?_⟩
   ·rw [run_loadVar_at w hd hi hb (by simp [ha]; omega), ha]
    simp
   ·refine .agg _ _ (by simp; omega) fun j hj => ?_
    have hj' : j < i.size := by simp at hj; omega
    rw [getD_drop_take _ _ _ _ hj', getD_map_range _ _ _ hj', Nat.add_assoc]
    exact hr _ (by omega)
  ·simp at h

/-- the same of a struct's value -/
theorem part_rep {t : TypeId} {cs : List PV} {off : Nat} {x : PV} (h : part P t cs off = some x) {vs : Array Value} (hl : cs.length = vs.size)
  (hr : ∀ j, j < cs.length → Rep P E (cs.getD j .top) (vs.getD j undef)) : ∃ v, (Go.part t vs off).run P w = .ok v w ∧ Rep P E x v := by
 unfold part at h
 obtain ⟨d, i, hd, hi⟩ := loadBox_some h
 rw [loadBox_eq hd hi] at h
 simp only [Go.part, Sem.run_bind, run_isAgg w hd, Result.andThen_ok, Sem.run_ite]
 cases ha : aggT d
 ·simp only [ha, Bool.false_eq_true, if_false] at h ⊢
  split at h
  ·rename_i hlt
   obtain rfl := Option.some.inj h
   have hv : vs[off]? = some (vs.getD off undef) := by
    have : off < vs.size := by omega
    simp [Array.getD, this]
   refine ⟨vs.getD off undef, ?_, hr off hlt⟩
   rw [hv]
   simp
  ·simp at h
 ·simp only [ha, if_true] at h ⊢
  split at h
  ·rename_i hle
   obtain rfl := Option.some.inj h
   refine ⟨.agg (vs.extract off (off + i.size)), by simp [run_sizeOf w hi], ?_⟩
   refine .agg _ _ (by simp; omega) fun j hj => ?_
   have hj' : j < i.size := by simp at hj; omega
   rw [getD_drop_take _ _ _ _ hj']
   have : (vs.extract off (off + i.size)).getD j undef = vs.getD (off + j) undef := by
    have h1 : off + j < vs.size := by omega
    have h2 : j < min (off + i.size) vs.size - off := by omega
    simp [Array.getD, h1, h2]
   rw [this]
   exact hr _ (by omega)
  ·simp at h

theorem cellsOK_getD : ∀ {ks : List Kd} {cs : List PV}, cellsOK ks cs = true → cs.length = ks.length ∧ ∀ j (k : Kd), ks[j]? = some k → cellOK k (cs.getD j .top) = true
 | [], [], _ => ⟨rfl, fun j k h => by simp at h⟩
 | k :: ks, c :: cs, h => by
  simp only [cellsOK, Bool.and_eq_true] at h
  obtain ⟨h1, h2⟩ := cellsOK_getD h.2
  refine ⟨by simp [h1], fun j k' hj => ?_⟩
  cases j with
  | zero => simp at hj; subst hj; simpa using h.1
  | succ j => simp at hj; simpa using h2 j k' hj
 | [], _ :: _, h => by simp [cellsOK] at h
 | _ :: _, [], h => by simp [cellsOK] at h

theorem proj_cellOK : ∀ {k : Kd} {c : PV}, cellOK k c = true → proj k c = c := by
 intro k c h
 cases k <;> cases c <;> simp_all [cellOK, proj, PV.toI, PV.toB, PV.toS, PV.toL]

theorem projs_getD : ∀ (ks : List Kd) (cs : List PV) (off j : Nat) (k : Kd), ks[j]? = some k → (projs ks cs off).getD j .top = proj k (cs.getD (off + j) .top)
 | [], _, _, j, k, h => by simp at h
 | k :: ks, cs, off, 0, k', h => by simp at h; subst h; simp [projs]
 | k :: ks, cs, off, j + 1, k', h => by
  simp at h
  have := projs_getD ks cs (off + 1) j k' h
  simp only [projs, List.getD_cons_succ, this]
  congr 2
  omega

theorem projs_length : ∀ (ks : List Kd) (cs : List PV) (off : Nat), (projs ks cs off).length = ks.length
 | [], _, _ => rfl
 | _ :: ks, cs, off => by simp [projs, projs_length ks]

theorem loadEl_rep {t T : TypeId} {cs : List PV} {off : Nat} {x : PV} (h : loadEl P t T cs off = some x) {blk o : Nat} {c : Array Value} {T' : TypeId} {fz : Nat × Nat}
  (hb : w.heap[blk]? = some (.cells c T' fz)) (hn : o + cs.length ≤ c.size) (hk : cellsOK (kds P T) cs = true) (hr : ∀ j, j < cs.length → Rep P E (cs.getD j .top) (c.getD (o + j) undef)) :
  ∃ v, (loadVar t ⟨blk, o + off, none⟩).run P w = .ok v w ∧ Rep P E x v := by
 obtain ⟨hlen, hcell⟩ := cellsOK_getD hk
 unfold loadEl at h
 cases hd : P.underlying t with
 | none => rw [hd] at h; simp at h
 | some d =>
  obtain ⟨i, hi⟩ := underlying_info hd
  rw [hd, hi] at h
  have key : (aggT d = true ∧ (if kds P t = ((kds P T).drop off).take i.size ∧ (kds P t).length = i.size ∧ off + i.size ≤ (kds P T).length then some (PV.agg (projs (kds P t) cs off)) else none) = some x) ∨
    (aggT d = false ∧ (if (kds P T)[off]? = some (kdOf P t) then some (proj (kdOf P t) (cs.getD off .top)) else none) = some x) := by
   cases d <;> first | exact .inl ⟨rfl, h⟩ | exact .inr ⟨rfl, h⟩
  rcases key with ⟨ha, h⟩ | ⟨ha, h⟩
  ·split at h
   ·rename_i hc
    obtain ⟨hk1, hk2, hk3⟩ := hc
    obtain rfl := Option.some.inj h
    refine ⟨.agg ((List.range i.size).map fun j => c.getD (o + off + j) undef).toArray, ?_, ?_⟩
    ·rw [run_loadVar_at w hd hi hb (by simp [ha]; omega), ha]
     simp
    ·refine .agg _ _ (by simp [projs_length, hk2]) fun j hj => ?_
     have hj' : j < i.size := by simpa [projs_length, hk2] using hj
     have hkj : (kds P t)[j]? = some ((kds P t)[j]'(by omega)) := by simp
     have hTj : (kds P T)[off + j]? = some ((kds P t)[j]'(by omega)) := by
      rw [← hkj, hk1]
      simp [List.getElem?_take, hj', List.getElem?_drop]
     rw [projs_getD _ _ _ _ _ hkj, proj_cellOK (hcell _ _ hTj), getD_map_range _ _ _ hj', Nat.add_assoc]
     exact hr _ (by omega)
   ·simp at h
  ·split at h
   ·rename_i hc
    obtain rfl := Option.some.inj h
    have hlt : off < (kds P T).length := by
     rcases Nat.lt_or_ge off (kds P T).length with hh | hh
     ·exact hh
     ·simp [List.getElem?_eq_none hh] at hc
    refine ⟨c.getD (o + off) undef, ?_, ?_⟩
    ·rw [run_loadVar_at w hd hi hb (by simp [ha]; omega), ha]
     simp
    ·rw [proj_cellOK (hcell _ _ hc)]
     exact hr _ (by omega)
   ·simp at h

theorem elSize_zero {t : TypeId} {sz : Nat} (h : elSize P t = some sz) : ∃ i z, P.info? t = some i ∧ i.size = sz ∧ sz = (kds P t).length ∧ 0 < sz ∧ i.zero = some z ∧ z.cells.size = sz := by
 unfold elSize at h
 cases hi : P.info? t with
 | none => simp [hi] at h
 | some i =>
  simp only [hi, Option.bind_some] at h
  split at h
  ·rename_i hc
   obtain rfl := Option.some.inj h
   obtain ⟨c1, c2, c3⟩ := hc
   cases hz : i.zero with
   | none => simp [hz] at c3
   | some z =>
    simp [hz] at c3
    exact ⟨i, z, rfl, rfl, c1, c2, hz, c3⟩
  ·simp at h

theorem elSize_spec {t : TypeId} {sz : Nat} (h : elSize P t = some sz) : ∃ i, P.info? t = some i ∧ i.size = sz ∧ sz = (kds P t).length ∧ 0 < sz := by
 obtain ⟨i, z, h1, h2, h3, h4, _, _⟩ := elSize_zero h
 exact ⟨i, h1, h2, h3, h4⟩

end
end Go.Pu
