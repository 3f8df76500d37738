/- Texts of this seat, one behind the other. -/
import Derived.Test.YtinnnhiaamjjlaaTB
import Derived.Test.YtinnnhiaamjjlaaRows
import Derived.Lib.Strings
import Derived.Lib.Slices
import Derived.Lib.Walk
import Derived.Lib.Bytealg
import Derived.KernelRfl
import Derived.Test.YtinnnhiaamjjlaaTD
import Derived.Test.YtinnnhiaamjjlaaTJ
import Derived.Lib.Overlaps
import Derived.Lib.AppendZeros
import Derived.Lib.AppendZerosOnto
import Derived.Lib.SliceRun
import Derived.WalkKit
import Derived.Test.YtinnnhiaamjjlaaTE
namespace Go.Proofs.Ytinnnhiaamjjlaa
open Go.Pu

set_option maxHeartbeats 1000000 in
set_option maxRecDepth 100000 in
theorem bytealg_CompareString (a b : ByteArray) (w : World) :
    Calls Try.prog 62 #[.string a, .string b] w fun e w' => e = .returned (.int .i64 (Lib.compareBytes a.data.toList b.data.toList)) ∧ w' = w := by
  go_enter Try.func62, Try.ntmps62
  go_wp2
  rw [run_callFunc_extern Try.func70 (by kernel_rfl) (by kernel_rfl) (by kernel_rfl) (e := Extern.BytealgCompare.compare) (by kernel_rfl), Lib.run_compareString]
  simp only [Result.andThen]
  rw [Oper.upon_value]
  go_wp2
  go_ret
  exact ⟨rfl, rfl⟩

set_option maxHeartbeats 1000000 in
theorem strings_Compare (a b : ByteArray) (w : World) :
    Calls Try.prog 50 #[.string a, .string b] w fun e w' => e = .returned (.int .i64 (Lib.compareBytes a.data.toList b.data.toList)) ∧ w' = w := by
  go_enter Try.func50, Try.ntmps50
  go_wp2_with (go_at_call 62; refine (bytealg_CompareString _ _ _).mono ?_; rintro e w' ⟨rfl, rfl⟩)
  go_ret
  exact ⟨rfl, rfl⟩

theorem mixed : Try.prog.follows .mixedOrders = true := by kernel_rfl

def namedB (P : Program) : Bool := P.funcs.toList.all fun fn => fn.body.isNone || fn.name != "runtime.NumGoroutine"

theorem named_of {P : Program} (h : namedB P = true) : Named P := by
  intro f fn hf hb hn
  have hm : fn ∈ P.funcs.toList := by
    have := Array.mem_of_getElem? hf
    simpa using this
  have := List.all_eq_true.1 h fn hm
  rw [Bool.or_eq_true] at this
  rcases this with h1 | h1
  · cases hh : fn.body <;> simp_all
  · rw [hn] at h1; simp at h1

set_option maxRecDepth 100000 in
theorem named : Named Try.prog := named_of (by kernel_rfl)

def X0 : Ext := fun f => if f = 50 then some fun | [.str a, .str b], [] => .ret (.int .i64 (Lib.compareBytes a.data.toList b.data.toList)) [] | _, _ => .fail else none

theorem x0 : XOK Try.prog X0 := by
  intro f g xs hc r hf hg
  unfold X0 at hf
  split at hf
  · rename_i hf31
    subst hf31
    cases hf
    refine ⟨⟨_, Try.func50, by kernel_rfl⟩, fun E vs hE hbk hI hL => ?_⟩
    dsimp only at hg
    split at hg
    · rename_i a b
      cases hg
      obtain ⟨hl, hr⟩ := hL
      match vs, hl, hr with
      | [u, v], _, hr =>
        have h0 := (hr 0 (by simp)).str_inv
        have h1 := (hr 1 (by simp)).str_inv
        simp at h0 h1
        subst h0
        subst h1
        refine (strings_Compare a b E.w).mono ?_
        rintro e w' ⟨rfl, rfl⟩
        exact ⟨_, E, rfl, rfl, hE, (Trans.refl E).toK (Nat.zero_le _), hI, .int _ _⟩
    · cases hg
  · cases hf

theorem rids : ridsOK Try.prog = true := by kernel_rfl
theorem own : ownKnob Try.prog.godebug = none := by kernel_rfl
theorem laidOut : laidOutB Try.prog = true := by kernel_rfl

end Go.Proofs.Ytinnnhiaamjjlaa

set_option linter.unusedVariables false
namespace Go.Proofs.Ytinnnhiaamjjlaa
open Go.Pu

def L0 : FuncId → Nat → Option (List Nat) := fun _ _ => none
def M0 : FuncId → Bool := fun _ => false

theorem cloneRow1 (e : List PV) (es : List (List PV)) : callK br Try.prog X0 M0 L0 noLS 10 46 [.lst 28 (e :: es)] [] (fun y => fixR Try.prog [] 0 y) =
    br (decide ((0 + (e :: es).length) * 32 ≤ 140737488355328)) (some (.all 0, [.arr 28 (e :: es) true])) none := by rw [← callF_eq]; kernel_rfl
theorem cloneRow2 : callK br Try.prog X0 M0 L0 noLS 10 46 [.nils] [] (fun y => fixR Try.prog [1000000 * (2 * 28 + 1)] 0 y) =
    some (.all 0, [.arr 28 [] true]) := by rw [← callF_eq]; kernel_rfl
theorem cloneRow3 : callK br Try.prog X0 M0 L0 noLS 10 46 [.new 28 [[]]] [] (fun y => fixR Try.prog [] 0 y) =
    some (.all 0, [.arr 28 [] true]) := by rw [← callF_eq]; kernel_rfl

theorem eCloneRow : EOK Try.prog 46 (gClone 28 32) :=
  eokClone (fun e es h => rowAt_of mixed named x0 (noLS_ok _ _ _ _) (fuel := 10) (plan := []) ((cloneRow1 e es).trans (br_pos (decide_eq_true h))))
    (rowAt_of mixed named x0 (noLS_ok _ _ _ _) (fuel := 10) (plan := [1000000 * (2 * 28 + 1)]) cloneRow2)
    (rowAt_of mixed named x0 (noLS_ok _ _ _ _) (fuel := 10) (plan := []) cloneRow3)

noncomputable abbrev XB : Ext := extT [(46, gClone 28 32)] X0
theorem xB : XOK Try.prog XB := xok1 x0 eCloneRow

end Go.Proofs.Ytinnnhiaamjjlaa

set_option linter.unusedVariables false
set_option linter.unusedSimpArgs false
namespace Go.Proofs.Ytinnnhiaamjjlaa
open Go Go.Pu Go.RowKit

/-- some cells of a block -/
def seg (a : Array Value) (o k : Nat) : List Value := (a.toList.drop o).take k

theorem seg_len {a : Array Value} {o k : Nat} (h : o + k ≤ a.size) : (seg a o k).length = k := by simp [seg]; omega
theorem seg_get {a : Array Value} {o k j : Nat} {v : Value} (h : (seg a o k)[j]? = some v) : j < k ∧ a[o + j]? = some v := by
  unfold seg at h
  rw [List.getElem?_take] at h
  split at h
  · rename_i hj
    rw [List.getElem?_drop] at h
    exact ⟨hj, by simpa using h⟩
  · cases h
theorem seg_getD {a : Array Value} {o k j : Nat} (hj : j < k) : (seg a o k).getD j undef = a.getD (o + j) undef := by
  unfold seg
  rw [List.getD, List.getElem?_take, if_pos hj, List.getElem?_drop, ← toList_getD, List.getD]
theorem seg_mem {a : Array Value} {o k : Nat} {v : Value} (h : v ∈ seg a o k) : ∃ j, j < k ∧ a.getD (o + j) undef = v := by
  obtain ⟨j, hj, rfl⟩ := List.getElem_of_mem h
  obtain ⟨h1, h2⟩ := seg_get (List.getElem?_eq_getElem hj)
  exact ⟨j, h1, by simp [Array.getD_eq_getD_getElem?, h2]⟩

theorem cell_at {w : World} {b : Nat} {C : Array Value} {T : TypeId} {fz : Nat × Nat} (h : w.heap[b]? = some (.cells C T fz)) (o j : Nat) : w.cell? (Addr.add ⟨b, o, none⟩ j) = C[o + j]? := by
  rw [Addr.add_lit]
  simp [World.cell?, h]

theorem recInfo : ∃ i0 : TypeInfo, Try.prog.info? 35 = some i0 ∧ i0.size = 2 ∧ i0.bytes = 32 ∧ ∃ z, i0.zero = some z ∧ z.cells = #[.slice none 0 0, .int .i64 0] := by
  have a1 : (Try.prog.info? 35).map (·.size) = some 2 := by kernel_rfl
  have a2 : (Try.prog.info? 35).map (·.bytes) = some 32 := by kernel_rfl
  have a3 : ((Try.prog.info? 35).bind fun i => i.zero.map (·.cells)) = some #[.slice none 0 0, .int .i64 0] := by kernel_rfl
  cases hi : Try.prog.info? 35 with
  | none => rw [hi] at a1; cases a1
  | some i =>
    rw [hi] at a1 a2 a3
    cases hz : i.zero with
    | none => simp [hz] at a3
    | some z => exact ⟨i, rfl, by simpa using a1, by simpa using a2, z, hz, by simpa [hz] using a3⟩

set_option maxHeartbeats 4000000 in
set_option maxRecDepth 100000 in
/-- there is room, the place is not the last: in place -/
theorem insShift (b off n c i vb voff vc : Nat) (C D : Array Value) (T TV : TypeId) (w : World) (hi : i < n) (hroom : n + 1 ≤ c) (hn63 : (n + 1) * 32 ≤ 140737488355328) (hvb : vb ≠ b)
    (hb : w.heap[b]? = some (.cells C T (0, 0))) (hv : w.heap[vb]? = some (.cells D TV (0, 0))) (hfit : off + c * 2 ≤ C.size) (hvf : voff + 2 ≤ D.size)
    (h1c : ∀ j, j < n * 2 → (C.getD (off + j) undef).oneCell' = true) (h1v : ∀ j, j < 2 → (D.getD (voff + j) undef).oneCell' = true) :
    Calls Try.prog 37 #[.slice (some ⟨b, off, none⟩) n c, .int .i64 i, .slice (some ⟨vb, voff, none⟩) 1 vc] w fun e w' =>
      e = .returned (.slice (some ⟨b, off, none⟩) (n + 1) c) ∧
      w' = (w.drew.setRow b (wr C (off + (i + 1) * 2) (seg C (off + i * 2) ((n - i) * 2)))).setRow b (wr (wr C (off + (i + 1) * 2) (seg C (off + i * 2) ((n - i) * 2))) (off + i * 2) (seg D voff 2)) := by
  obtain ⟨i0, hi0, hs0, hb0, z, hz0, hzc⟩ := recInfo
  have u22 : Try.prog.underlying 22 = some (.slice 35) := by kernel_rfl
  have hz2 : ¬ ((i : Int) = (n : Int)) := by omega
  have hsa : w.shape? vb = some (TV, D.size) := by simp [World.shape?, hv]
  have hsb : w.shape? b = some (T, C.size) := by simp [World.shape?, hb]
  have hfa : ∀ o, w.frozen? ⟨vb, o, none⟩ = false := fun o => by simp [World.frozen?, hv]
  have hov : ∀ lb cb, (callFunc 51 #[.slice (some ⟨vb, voff, none⟩) 1 vc, .slice (some ⟨b, off + (i + 1) * 2, none⟩) lb cb]).run Try.prog w = .ok (.value (.bool false)) w := fun lb cb => by
    rw [run_callFunc_extern Try.func51 (by kernel_rfl) (by kernel_rfl) (by kernel_rfl) (e := Extern.SlicesOverlaps.overlaps #[22, 22] #[4]) (by kernel_rfl),
      Lib.run_overlaps_apart w 22 4 35 u22 2 (fun w => by rw [Go.Pu.run_sizeOf w hi0, hs0]) ⟨vb, voff, none⟩ ⟨b, off + (i + 1) * 2, none⟩ 1 vc lb cb hvb TV T D.size C.size hsa hsb (by omega) (hfa _) (hfa _)]
    rfl
  have hw1 : IntKind.i64.wrap ((i : Int) + 1) = (i : Int) + 1 := by rw [IntKind.wrap_i64]; omega
  have hb1 : (0 : Int) ≤ (i : Int) + 1 := by omega
  have hin : i ≤ n := by omega
  have htn : ((i : Int) + 1).toNat = i + 1 := by omega
  have hb2 : ¬ (c = i + 1) := by omega
  have hb3 : (i : Int) ≤ (n : Int) + 1 := by omega
  have hb4 : ¬ (c = i) := by omega
  have hl1 : (seg C (off + i * 2) ((n - i) * 2)).length = (n - i) * 2 := seg_len (by omega)
  have hm1 : Nat.min (n + 1 - i) (n - i) = n - i := by simp only [Nat.min_def]; split <;> omega
  have hcp1 : ∀ ty dc sc, (Builtin.copy_ #[22, 22] ty #[.slice (some ⟨b, off + (i + 1) * 2, none⟩) (n - i) dc, .slice (some ⟨b, off + i * 2, none⟩) (n + 1 - i) sc]).run Try.prog w.drew =
      .ok (goInt ((n - i : Nat) : Int)) (w.drew.setRow b (wr C (off + (i + 1) * 2) (seg C (off + i * 2) ((n - i) * 2)))) := fun ty dc sc => by
    have := run_copy_rows (P := Try.prog) (w := w.drew) (dT := 22) (sT := 22) (ty := ty) u22 hi0 hs0 (b := b) (o := off + (i + 1) * 2) (dLen := n - i) (dCap := dc) (sb := b) (so := off + i * 2) (sLen := n + 1 - i) (sCap := sc) (c := C) (T := T) hb
      (cs := seg C (off + i * 2) ((n - i) * 2)) (by rw [hl1, hm1]) (fun j v hj => by rw [cell_at (w := w.drew) hb]; exact (seg_get hj).2) (by rw [hl1]; omega)
      (fun v hv' => by obtain ⟨j, hj, rfl⟩ := seg_mem hv'; rw [Nat.add_assoc]; exact h1c _ (by omega))
    rw [hm1] at this
    exact this
  obtain ⟨C1, hC1⟩ : ∃ C1, C1 = wr C (off + (i + 1) * 2) (seg C (off + i * 2) ((n - i) * 2)) := ⟨_, rfl⟩
  rw [← hC1] at hcp1 ⊢
  have hC1s : C1.size = C.size := by rw [hC1]; exact wr_size (by rw [hl1]; omega)
  have hl2 : (seg D voff 2).length = 2 := seg_len hvf
  have hm2 : Nat.min 1 (n + 1 - i) = 1 := by simp only [Nat.min_def]; split <;> omega
  have hcp2 : ∀ (W : World), W.heap = (w.drew.setRow b C1).heap → ∀ ty dc, (Builtin.copy_ #[22, 22] ty #[.slice (some ⟨b, off + i * 2, none⟩) (n + 1 - i) dc, .slice (some ⟨vb, voff, none⟩) 1 vc]).run Try.prog W =
      .ok (goInt 1) (W.setRow b (wr C1 (off + i * 2) (seg D voff 2))) := fun W hW ty dc => by
    have hWb : W.heap[b]? = some (.cells C1 T (0, 0)) := by rw [hW]; exact setRow_heap w.drew b _ _ _ _ hb
    have hWv : W.heap[vb]? = some (.cells D TV (0, 0)) := by rw [hW, setRow_other w.drew _ _ _ hvb]; exact hv
    have := run_copy_rows (P := Try.prog) (w := W) (dT := 22) (sT := 22) (ty := ty) u22 hi0 hs0 (b := b) (o := off + i * 2) (dLen := n + 1 - i) (dCap := dc) (sb := vb) (so := voff) (sLen := 1) (sCap := vc) (c := C1) (T := T) hWb
      (cs := seg D voff 2) (by rw [hl2, hm2]) (fun j v hj => by rw [cell_at hWv]; exact (seg_get hj).2) (by rw [hl2, hC1s]; omega)
      (fun v hv' => by obtain ⟨j, hj, rfl⟩ := seg_mem hv'; exact h1v _ hj)
    rw [hm2] at this
    exact this
  have mixed := mixed
  clear hC1 hC1s hl1 hl2 hm1 hm2 h1c h1v
  go_enter Try.func37, Try.ntmps37
  go_wp2_with (simp only [hov])
  go_region_law_o (refine step_copy_at rfl _ _ 22 22 rfl _ _ (by simp [Act.eval, Act.put]) (by simp [Act.eval, Act.put]) (hcp1 _ _ _) ?_)
  go_wp2_with (at_builtin; refine wpList_copy_at rfl _ _ 22 22 rfl _ _ rfl rfl (hcp2 _ rfl _ _) ?_)
  go_ret
  exact ⟨rfl, rfl⟩

set_option maxHeartbeats 4000000 in
set_option maxRecDepth 100000 in
/-- there is no room, the place is not the last: a new row -/
theorem insGrow (b off n c i vb voff vc : Nat) (C D : Array Value) (T TV : TypeId) (w : World) (hi : i < n) (hnc : n ≤ c) (hroom : c < n + 1) (hbig : (n + 1) * 32 ≤ 140737488355328)
    (hb : w.heap[b]? = some (.cells C T (0, 0))) (hv : w.heap[vb]? = some (.cells D TV (0, 0))) (hfit : off + c * 2 ≤ C.size) (hvf : voff + 2 ≤ D.size)
    (h1c : ∀ j, j < n * 2 → (C.getD (off + j) undef).oneCell' = true) (h1v : ∀ j, j < 2 → (D.getD (voff + j) undef).oneCell' = true) :
    ∃ (G : Nat) (ROW : Array Value), n + 1 ≤ G ∧ G * 2 ≤ ROW.size ∧ (∀ j, j < i * 2 → ROW.getD j undef = C.getD (off + j) undef) ∧
    Calls Try.prog 37 #[.slice (some ⟨b, off, none⟩) n c, .int .i64 i, .slice (some ⟨vb, voff, none⟩) 1 vc] w fun e w' =>
      e = .returned (.slice (some ⟨w.heap.size, 0, none⟩) (n + 1) G) ∧
      w'.heap = (((w.drew.alloc (.cells ROW 35)).setRow w.heap.size (wr ROW (i * 2) (seg D voff 2))).setRow w.heap.size (wr (wr ROW (i * 2) (seg D voff 2)) ((i + 1) * 2) (seg C (off + i * 2) ((n - i) * 2)))).heap ∧
      w'.os = w.os ∧ w'.tape = w.tape ∧ w'.output = w.output := by
  obtain ⟨i0, hi0, hs0, hb0, z, hz0, hzc⟩ := recInfo
  have u22 : Try.prog.underlying 22 = some (.slice 35) := by kernel_rfl
  have u3 : Try.prog.underlying 3 = some (.int .i64) := by kernel_rfl
  have hz2 : ¬ ((i : Int) = (n : Int)) := by omega
  have hz3 : (c : Int) < (n : Int) + 1 := by omega
  have hbw : b < w.heap.size := heap_lt hb
  have hvw : vb < w.heap.size := heap_lt hv
  have hkk : (n : Int) + 1 - (i : Int) = ((n + 1 - i : Nat) : Int) := by omega
  have hik : i + (n + 1 - i) = n + 1 := by omega
  have hl0 : (seg C off (i * 2)).length = i * 2 := seg_len (by omega)
  have hold : (Builtin.firstCells i0.size i (.slice (some ⟨b, off, none⟩) i c)).run Try.prog w.drew = .ok (seg C off (i * 2)).toArray w.drew := by
    rw [hs0]
    exact run_firstCells_some w.drew 2 i ⟨b, off, none⟩ i c (seg C off (i * 2)) hl0 (fun j v hj => by
      rw [cell_at (w := w.drew) hb]
      exact (seg_get hj).2)
  obtain ⟨G, hG⟩ : ∃ G, G = grownCap w (n + 1) c 35 := ⟨_, rfl⟩
  have hrz : ∀ ty, (Builtin.append_ #[22, 3] ty #[.slice (some ⟨b, off, none⟩) i c, .int .i64 ((n : Int) + 1 - (i : Int))]).run Try.prog w =
      .ok (.slice (some ⟨w.heap.size, 0, none⟩) (n + 1) G) (w.drew.alloc (.cells ((seg C off (i * 2)).toArray ++ Builtin.zeroCells z.cells (n + 1 - i) ++ Builtin.zeroCells z.cells (G - (n + 1))) 35)) := fun ty => by
    have h := Lib.run_append_grow_zeros w 22 3 ty 35 i0 _ .i64 .i64 u22 u3 hi0 hz0 (some ⟨b, off, none⟩) i c (seg C off (i * 2)) hold (n + 1 - i) (by omega) (by omega) (by omega) (by omega) (by rw [hb0]; omega) (by rw [hb0, hik]; exact growslice_fits hroom hbig)
    rw [hik] at h
    rw [hkk, hG]
    exact h
  obtain ⟨ROW, hROW⟩ : ∃ ROW : Array Value, ROW = (seg C off (i * 2)).toArray ++ Builtin.zeroCells z.cells (n + 1 - i) ++ Builtin.zeroCells z.cells (G - (n + 1)) := ⟨_, rfl⟩
  rw [← hROW] at hrz
  have hGn : n + 1 ≤ G := by rw [hG]; exact grownCap_ge w _ _ _
  have hRs : ROW.size = G * 2 := by
    rw [hROW]
    simp [Builtin.zeroCells, hzc, hl0]
    omega
  have hRi : ∀ j, j < i * 2 → ROW.getD j undef = C.getD (off + j) undef := by
    intro j hj
    rw [hROW, ← toList_getD, Array.toList_append, Array.toList_append, List.getD, List.append_assoc, List.getElem?_append_left (by simp [hl0]; omega), ← List.getD, List.toList_toArray, seg_getD hj]
  refine ⟨G, ROW, hGn, by omega, hRi, ?_⟩
  have hG63 : G ≤ 9223372036854775807 := by
    have := grownCap_le_maxLen w (n + 1) c 35 (by unfold maxLen; omega)
    rw [← hG] at this
    unfold maxLen at this
    omega
  obtain ⟨W1, hW1⟩ : ∃ W1, W1 = w.drew.alloc (.cells ROW 35) := ⟨_, rfl⟩
  have hW1n : W1.heap[w.heap.size]? = some (.cells ROW 35 (0, 0)) := by rw [hW1]; show (w.heap.push _)[w.heap.size]? = _; simp
  have hW1o : ∀ k, k < w.heap.size → W1.heap[k]? = w.heap[k]? := fun k hk => by rw [hW1]; show (w.heap.push _)[k]? = _; simp [Array.getElem?_push, Nat.ne_of_lt hk]
  have hl2 : (seg D voff 2).length = 2 := seg_len hvf
  have hm2 : Nat.min 1 (n + 1 - i) = 1 := by simp only [Nat.min_def]; split <;> omega
  have hbN : b ≠ w.heap.size := by omega
  have hvN : vb ≠ w.heap.size := by omega
  have hcpA : ∀ (W : World), W.heap = W1.heap → ∀ ty dc, (Builtin.copy_ #[22, 22] ty #[.slice (some ⟨w.heap.size, i * 2, none⟩) (n + 1 - i) dc, .slice (some ⟨vb, voff, none⟩) 1 vc]).run Try.prog W =
      .ok (goInt 1) (W.setRow w.heap.size (wr ROW (i * 2) (seg D voff 2))) := fun W hW ty dc => by
    have := run_copy_rows (P := Try.prog) (w := W) (dT := 22) (sT := 22) (ty := ty) u22 hi0 hs0 (b := w.heap.size) (o := i * 2) (dLen := n + 1 - i) (dCap := dc) (sb := vb) (so := voff) (sLen := 1) (sCap := vc) (c := ROW) (T := 35) (by rw [hW]; exact hW1n)
      (cs := seg D voff 2) (by rw [hl2, hm2]) (fun j v hj => by rw [cell_at (show W.heap[vb]? = some (.cells D TV (0, 0)) by rw [hW, hW1o _ hvw]; exact hv)]; exact (seg_get hj).2) (by rw [hl2, hRs]; omega)
      (fun v hv' => by obtain ⟨j, hj, rfl⟩ := seg_mem hv'; exact h1v _ hj)
    rw [hm2] at this
    exact this
  obtain ⟨R1, hR1⟩ : ∃ R1, R1 = wr ROW (i * 2) (seg D voff 2) := ⟨_, rfl⟩
  rw [← hR1] at hcpA ⊢
  have hR1s : R1.size = ROW.size := by rw [hR1]; exact wr_size (by rw [hl2, hRs]; omega)
  have hl3 : (seg C (off + i * 2) ((n - i) * 2)).length = (n - i) * 2 := seg_len (by omega)
  have hm3 : Nat.min (n - i) (n - i) = n - i := Nat.min_self _
  have hcpB : ∀ (W : World), W.heap = (W1.setRow w.heap.size R1).heap → ∀ ty dc sc, (Builtin.copy_ #[22, 22] ty #[.slice (some ⟨w.heap.size, (i + 1) * 2, none⟩) (n - i) dc, .slice (some ⟨b, off + i * 2, none⟩) (n - i) sc]).run Try.prog W =
      .ok (goInt ((n - i : Nat) : Int)) (W.setRow w.heap.size (wr R1 ((i + 1) * 2) (seg C (off + i * 2) ((n - i) * 2)))) := fun W hW ty dc sc => by
    have := run_copy_rows (P := Try.prog) (w := W) (dT := 22) (sT := 22) (ty := ty) u22 hi0 hs0 (b := w.heap.size) (o := (i + 1) * 2) (dLen := n - i) (dCap := dc) (sb := b) (so := off + i * 2) (sLen := n - i) (sCap := sc) (c := R1) (T := 35)
      (by rw [hW]; exact setRow_heap W1 w.heap.size _ _ _ _ hW1n) (cs := seg C (off + i * 2) ((n - i) * 2)) (by rw [hl3, hm3])
      (fun j v hj => by rw [cell_at (show W.heap[b]? = some (.cells C T (0, 0)) by rw [hW, setRow_other W1 _ _ _ hbN, hW1o _ hbw]; exact hb)]; exact (seg_get hj).2) (by rw [hl3, hR1s, hRs]; omega)
      (fun v hv' => by obtain ⟨j, hj, rfl⟩ := seg_mem hv'; rw [Nat.add_assoc]; exact h1c _ (by omega))
    rw [hm3] at this
    exact this
  have hGi : ¬ (G = i) := by omega
  have hGim : ¬ (G = i + 1) := by omega
  have hci : ¬ (c = i) := by omega
  have hw1 : IntKind.i64.wrap ((i : Int) + 1) = (i : Int) + 1 := by rw [IntKind.wrap_i64]; omega
  have hb1 : (0 : Int) ≤ (i : Int) + 1 := by omega
  have hin : i ≤ n := by omega
  have htn : ((i : Int) + 1).toNat = i + 1 := by omega
  have hb3 : (i : Int) ≤ (n : Int) := by omega
  rw [← hW1] at hrz ⊢
  have mixed := mixed
  have hE1 : ((w.alloc (.cells ROW 35)).drew).heap = (w.drew.alloc (.cells ROW 35)).heap := rfl
  have hF : (((w.alloc (.cells ROW 35)).drew.setRow w.heap.size R1).drew).heap = ((w.drew.alloc (.cells ROW 35)).setRow w.heap.size R1).heap := rfl
  clear hR1 hkk hik hold hROW hG hl0 hl2 hl3 hm2 hm3 hRs hRi hR1s hW1n hW1o
  subst hW1
  go_enter Try.func37, Try.ntmps37
  go_wp2_with (first
    | (at_builtin; refine Lib.wpList_append_run _ rfl _ _ _ _ rfl _ _ rfl rfl _ _ (hrz _) ?_)
    | (at_builtin; refine wpList_copy_at rfl _ _ 22 22 rfl _ _ rfl rfl (hcpA _ hE1 _ _) ?_)
    | (at_builtin; refine wpList_copy_at rfl _ _ 22 22 rfl _ _ rfl rfl (hcpB _ rfl _ _ _) ?_))

  go_region_law_o (refine step_copy_at rfl _ _ 22 22 rfl (.slice (some ⟨w.heap.size, (i + 1) * 2, none⟩) (n - i) (G - (i + 1))) (.slice (some ⟨b, off + i * 2, none⟩) (n - i) (c - i)) (by simp [Act.eval, Act.put]) (by simp [Act.eval, Act.put]) (hcpB _ hF _ _ _) ?_)
  go_wp2
  go_ret
  exact ⟨rfl, rfl, rfl, rfl, rfl⟩

set_option maxHeartbeats 4000000 in
set_option maxRecDepth 100000 in
/-- slices.Delete of records, of one or more -/
theorem delCut (b off n c i j : Nat) (C : Array Value) (T : TypeId) (w : World) (hij : i < j) (hj : j ≤ n) (hnc : n ≤ c) (hn63 : (n + 1) * 32 ≤ 140737488355328) (hb : w.heap[b]? = some (.cells C T (0, 0))) (hfit : off + c * 2 ≤ C.size)
    (h1c : ∀ j, j < n * 2 → (C.getD (off + j) undef).oneCell' = true) :
    ∃ zs : List Value, zs.length = (n - (i + (n - j))) * 2 ∧
    Calls Try.prog 33 #[.slice (some ⟨b, off, none⟩) n c, .int .i64 i, .int .i64 j] w fun e w' =>
      e = .returned (.slice (some ⟨b, off, none⟩) (i + (n - j)) c) ∧
      w'.heap = ((w.drew.setRow b (wr C (off + i * 2) (seg C (off + j * 2) ((n - j) * 2)))).setRow b (wr (wr C (off + i * 2) (seg C (off + j * 2) ((n - j) * 2))) (off + (i + (n - j)) * 2) zs)).heap ∧
      w'.os = w.os ∧ w'.tape = w.tape ∧ w'.output = w.output := by
  obtain ⟨i0, hi0, hs0, hb0, z, hz0, hzc⟩ := recInfo
  have u22 : Try.prog.underlying 22 = some (.slice 35) := by kernel_rfl
  have hl1 : (seg C (off + j * 2) ((n - j) * 2)).length = (n - j) * 2 := seg_len (by omega)
  obtain ⟨A, hA, hsrc⟩ : ∃ A : Addr, (if c = j then some (⟨b, off, none⟩ : Addr) else some ⟨b, off + j * 2, none⟩) = some A ∧ (∀ t u, (seg C (off + j * 2) ((n - j) * 2))[t]? = some u → w.drew.cell? (A.add t) = some u) := by
    by_cases h : c = j
    · refine ⟨⟨b, off, none⟩, by simp [h], fun t u hu => ?_⟩
      have := (seg_get hu).1
      omega
    · refine ⟨⟨b, off + j * 2, none⟩, by simp [h], fun t u hu => ?_⟩
      rw [cell_at (w := w.drew) hb]
      exact (seg_get hu).2
  have h1s : ∀ u ∈ seg C (off + j * 2) ((n - j) * 2), u.oneCell' = true := fun u hu => by
    obtain ⟨t, ht, rfl⟩ := seg_mem hu
    rw [Nat.add_assoc]; exact h1c _ (by omega)
  have hap : ∀ ty, (Builtin.append_ #[22, 22] ty #[.slice (some ⟨b, off, none⟩) i c, .slice (some A) (n - j) (c - j)]).run Try.prog w.drew =
      .ok (.slice (some ⟨b, off, none⟩) (i + (n - j)) c) (w.drew.setRow b (wr C (off + i * 2) (seg C (off + j * 2) ((n - j) * 2)))) := fun ty => by
    have hld := run_loadCells_list (P := Try.prog) w.drew A (seg C (off + j * 2) ((n - j) * 2)) hsrc
    rw [hl1] at hld
    have hst := run_storeCells_at Try.prog b (off + i * 2) T (seg C (off + j * 2) ((n - j) * 2)) 0 C w.drew hb (by rw [hl1]; omega) h1s
    refine run_append_room' (P := Try.prog) (w1 := w.drew.setRow b (wr C (off + i * 2) (seg C (off + j * 2) ((n - j) * 2)))) rfl rfl u22 u22 rfl hi0 hs0 (by simp [Builtin.lenOf]) (news := (seg C (off + j * 2) ((n - j) * 2)).toArray) (by simpa [Builtin.firstCells] using hld) (by omega)
      (fun a ha => by cases ha; rw [Addr.add_lit]; exact hst) (fun h => by cases h)
  obtain ⟨C1, hC1⟩ : ∃ C1, C1 = wr C (off + i * 2) (seg C (off + j * 2) ((n - j) * 2)) := ⟨_, rfl⟩
  rw [← hC1] at hap ⊢
  have hC1s : C1.size = C.size := by rw [hC1]; exact wr_size (by rw [hl1]; omega)
  obtain ⟨zs, hzs⟩ : ∃ zs, zs = (Builtin.zeroCells z.cells (n - (i + (n - j)))).toList := ⟨_, rfl⟩
  have hzl : zs.length = (n - (i + (n - j))) * 2 := by rw [hzs]; simp [Builtin.zeroCells, hzc]
  have hcl : ∀ (W : World), W.heap = (w.drew.setRow b C1).heap → ∀ ty cc, (Builtin.clear_ #[22] ty #[.slice (some ⟨b, off + (i + (n - j)) * 2, none⟩) (n - (i + (n - j))) cc]).run Try.prog W =
      .ok (.tuple #[]) (W.setRow b (wr C1 (off + (i + (n - j)) * 2) zs)) := fun W hW ty cc => by
    rw [hzs]
    refine run_clear_rows (P := Try.prog) u22 hi0 hz0 (by omega) (T := T) (by rw [hW]; exact setRow_heap w.drew b _ _ _ _ hb) (by rw [hzc, hC1s]; simp; omega) ?_
    intro v hv
    simp [Builtin.zeroCells, hzc] at hv
    obtain ⟨t, ht, rfl⟩ := hv
    rcases Nat.mod_two_eq_zero_or_one t with h | h <;> simp [h, Value.oneCell']
  refine ⟨zs, hzl, ?_⟩
  have hic : i ≤ c := by omega
  have hjc : j ≤ c := by omega
  have hin : i ≤ n := by omega
  have hzn : ¬ ((i : Int) = (j : Int)) := by omega
  have mixed := mixed
  clear hC1 hC1s hl1 h1s hsrc hzs hzl
  go_enter Try.func33, Try.ntmps33
  go_wp2_with fail

  go_region_law_o (refine step_append_at rfl (.tmp 22) (.tmp 25) 22 22 rfl _ _ (by simp [Act.eval, Act.put]) (by simp [Act.eval, Act.put, hA]) (hap _) ?_)
  go_wp2
  go_ret
  exact ⟨rfl, rfl, rfl, rfl, rfl⟩

end Go.Proofs.Ytinnnhiaamjjlaa

set_option linter.unusedVariables false
set_option linter.unusedSimpArgs false
namespace Go.Proofs.Ytinnnhiaamjjlaa
open Go Go.Pu Go.RowKit

/-- a row with one more at some place; with one less -/
def insL (es : List (List PV)) (i : Int) (y : List PV) : List (List PV) := es.take i.toNat ++ y :: es.drop i.toNat
def delL (es : List (List PV)) (i : Int) : List (List PV) := es.take i.toNat ++ es.drop (i.toNat + 1)

def gIns : List PV → List Blk → Tr := fun xs hc => match xs, hc with
  | [.all 0, .int .i64 i, .all 1], [.arr t es true, .arr t' [y] true] => if t = 35 ∧ t' = 35 then
      .test (decide (0 ≤ i ∧ i ≤ es.length ∧ ((es.length : Int) + 1) * 32 ≤ 140737488355328)) (.ret (.all 2) [.dead, .arr 35 [y] true, .arr 35 (insL es i y) true]) .fail else .fail
  | [.nils, .int .i64 i, .all 0], [.arr t' [y] true] => if t' = 35 then .test (decide (i = 0)) (.ret (.all 1) [.arr 35 [y] true, .arr 35 [y] true]) .fail else .fail
  | _, _ => .fail
def gDel : List PV → List Blk → Tr := fun xs hc => match xs, hc with
  | [.all 0, .int .i64 i, .int .i64 j], [.arr t es true] => if t = 35 then
      .test (decide (0 ≤ i ∧ i < es.length ∧ j = i + 1 ∧ ((es.length : Int) + 1) * 32 ≤ 140737488355328)) (.ret (.all 1) [.dead, .arr 35 (delL es i) true]) .fail else .fail
  | _, _ => .fail

theorem insL_len {es : List (List PV)} {i : Nat} {y : List PV} (h : i ≤ es.length) : (insL es i y).length = es.length + 1 := by
  simp [insL]; omega
theorem insL_getD {es : List (List PV)} {i : Nat} {y : List PV} (h : i ≤ es.length) (k : Nat) : (insL es i y).getD k [] = if k < i then es.getD k [] else if k = i then y else es.getD (k - 1) [] := by
  have hl : (es.take i).length = i := by simp; omega
  unfold insL
  rw [Int.toNat_natCast]
  simp only [List.getD]
  by_cases h1 : k < i
  · rw [if_pos h1, List.getElem?_append_left (by omega), List.getElem?_take, if_pos h1]
  · rw [if_neg h1, List.getElem?_append_right (by omega), hl]
    by_cases h2 : k = i
    · subst h2; simp
    · rw [if_neg h2, show k - i = (k - i - 1) + 1 by omega, List.getElem?_cons_succ, List.getElem?_drop, show i + (k - i - 1) = k - 1 by omega]
theorem delL_len {es : List (List PV)} {i : Nat} (h : i < es.length) : (delL es i).length = es.length - 1 := by
  simp [delL]; omega
theorem delL_getD {es : List (List PV)} {i : Nat} (h : i < es.length) (k : Nat) : (delL es i).getD k [] = if k < i then es.getD k [] else es.getD (k + 1) [] := by
  have hl : (es.take i).length = i := by simp; omega
  unfold delL
  rw [Int.toNat_natCast]
  simp only [List.getD]
  by_cases h1 : k < i
  · rw [if_pos h1, List.getElem?_append_left (by omega), List.getElem?_take, if_pos h1]
  · rw [if_neg h1, List.getElem?_append_right (by omega), hl, List.getElem?_drop, show i + 1 + (k - i) = k + 1 by omega]

theorem br_neg {α : Type} {b : Bool} {x y : Option α} (h : b = false) : br b x y = y := by rw [h]; rfl

set_option maxRecDepth 100000 in
theorem insEnd (v0 : Int) (v1 v2 : List (List PV)) : callK br Try.prog XB M0 L0 noLS 20 37 [.all 0, .int .i64 v0, .all 1] [.arr 35 v1 true, .arr 35 v2 true] (fun y => fixR Try.prog [] 2 y) =
    br (decide ((0 : Int) ≤ v0 ∧ v0 ≤ ln v1 ∧ ln v1 ≤ ln v1))
      (br (ln v2 == (0 : Int)) (some (.all 0, [.arr 35 v1 true, .arr 35 v2 true]))
        (br (v0 == ln v1) (br (decide ((List.length v1 + List.length v2) * 32 ≤ 140737488355328)) (some (.all 2, [.dead, .arr 35 v2 true, .arr 35 (v1 ++ v2) true])) none) none)) none := by
  rw [← callF_eq]; kernel_rfl

set_option maxRecDepth 100000 in
theorem insNil (y : List PV) : callK br Try.prog XB M0 L0 noLS 20 37 [.nils, .int .i64 0, .all 0] [.arr 35 [y] true] (fun y => fixR Try.prog [] 1 y) =
    some (.all 1, [.arr 35 [y] true, .arr 35 [y] true]) := by
  rw [← callF_eq]; kernel_rfl

theorem recSz : elSize Try.prog 35 = some 2 := by kernel_rfl

section
variable {E : Env}

/-- the cells of a row of records -/
theorem rec_one {es : List (List PV)} {C : Array Value} {o : Nat} (hk : ∀ i, i < es.length → cellsOK (kds Try.prog 35) (es.getD i []) = true)
    (hr : ∀ i j, i < es.length → j < 2 → Rep Try.prog E ((es.getD i []).getD j .top) (C.getD (o + i * 2 + j) undef)) : ∀ j, j < es.length * 2 → (C.getD (o + j) undef).oneCell' = true := by
  intro j hj
  have h1 := hr (j / 2) (j % 2) (by omega) (by omega)
  obtain ⟨l1, l2⟩ := cellsOK_getD (hk (j / 2) (by omega))
  obtain ⟨_, _, _, hkl, _⟩ := elSize_spec recSz
  have hkd : (kds Try.prog 35)[j % 2]? = some ((kds Try.prog 35)[j % 2]'(by omega)) := by simp
  rw [show o + j / 2 * 2 + j % 2 = o + j by omega] at h1
  exact rep_oneCell_ok h1 (l2 _ _ hkd)

end

theorem eIns : EOK Try.prog 37 gIns := eok_rows fun xs hc r hg => by
  unfold gIns at hg
  split at hg
  case h_3 => cases hg
  case h_2 =>
    split at hg
    case isFalse => cases hg
    rename_i ht
    subst ht
    obtain ⟨hb, rfl⟩ := val_test hg
    obtain rfl := of_decide_eq_true hb
    exact rowAt_of mixed named xB (noLS_ok _ _ _ _) (fuel := 20) (plan := []) (insNil _)
  rename_i i t es t' y
  split at hg
  case isFalse => cases hg
  rename_i ht
  obtain ⟨rfl, rfl⟩ := ht
  obtain ⟨hb, rfl⟩ := val_test hg
  obtain ⟨hi0, hi1, hbig⟩ := of_decide_eq_true hb
  obtain ⟨i, rfl⟩ : ∃ k : Nat, i = k := ⟨i.toNat, by omega⟩
  have hi1 : i ≤ es.length := by omega
  by_cases hie : i = es.length
  · -- at the end: the machine's own
    have h2 : (0 : Int) ≤ (i : Int) ∧ (i : Int) ≤ ln es ∧ ln es ≤ ln es := ⟨by omega, by unfold ln; omega, Int.le_refl _⟩
    have h3 : (ln [y] == (0 : Int)) = false := rfl
    have h4 : ((i : Int) == ln es) = true := by rw [hie]; simp [ln]
    have he := insEnd (i : Int) es [y]
    rw [br_pos (decide_eq_true h2), br_neg h3, br_pos h4, br_pos (decide_eq_true (by simp; omega))] at he
    have hx : es ++ [y] = insL es (i : Int) y := by rw [hie]; simp [insL]
    rw [hx] at he
    exact rowAt_of mixed named xB (noLS_ok _ _ _ _) (fuel := 20) (plan := []) he
  have hilt : i < es.length := by omega
  refine ⟨⟨_, Try.func37, by kernel_rfl⟩, fun E vs hE hok hI hL => ?_⟩
  obtain ⟨v0, vs1, rfl, h0, hL1⟩ := repL_0 hL
  obtain ⟨v1, vs2, rfl, h1, hL2⟩ := repL_0 hL1
  obtain ⟨v2, vs3, rfl, h2, hL3⟩ := repL_0 hL2
  obtain rfl := repL_nil hL3
  obtain rfl := h1.int_inv
  have e0 : E.h[0]? = some (.arr 35 es true) := by rw [hE]; rfl
  have e1 : E.h[1]? = some (.arr 35 [y] true) := by rw [hE]; rfl
  cases h0 with | all _ n0 _ hn0 hs0 =>
  cases h2 with | all _ n1 _ hn1 hs1 =>
  obtain rfl := hn0 _ _ _ e0
  obtain rfl := hn1 _ _ _ e1
  unfold SlcAt at hs0 hs1
  rw [e0] at hs0
  rw [e1] at hs1
  obtain ⟨_, sz, A, cap, hsz, rfl, hcap, hmem⟩ := hs0
  rw [recSz] at hsz
  obtain rfl := (Option.some.inj hsz).symm
  obtain ⟨_, sz, A1, cap1, hsz, rfl, hcap1, hmem1⟩ := hs1
  rw [recSz] at hsz
  obtain rfl := (Option.some.inj hsz).symm
  rcases hmem with hz | ⟨blk, o, C, T, hρ, rfl, hC, hfit⟩
  · omega
  rcases hmem1 with hz | ⟨vb, vo, D, TV, hρ1, rfl, hD, hfit1⟩
  · simp at hcap1; omega
  have B0 := hI.blk 0
  unfold BlkAt at B0
  rw [e0] at B0
  simp only [hρ] at B0
  obtain ⟨k0, sz, C', T', hsz, hC', f0, r0, l0, _⟩ := B0
  rw [recSz] at hsz
  obtain rfl := (Option.some.inj hsz).symm
  rw [hC] at hC'
  obtain ⟨rfl, rfl⟩ : C = C' ∧ T = T' := by cases hC'; exact ⟨rfl, rfl⟩
  have B1 := hI.blk 1
  unfold BlkAt at B1
  rw [e1] at B1
  simp only [hρ1] at B1
  obtain ⟨k1, sz, D', TV', hsz, hD', f1, r1, l1, _⟩ := B1
  rw [recSz] at hsz
  obtain rfl := (Option.some.inj hsz).symm
  rw [hD] at hD'
  obtain ⟨rfl, rfl⟩ : D = D' ∧ TV = TV' := by cases hD'; exact ⟨rfl, rfl⟩
  have hvb : vb ≠ blk := by
    rintro rfl
    have := hI.own 0 1 vb (.inl ⟨o, hρ, .inl ⟨_, _, e0⟩⟩) (.inl ⟨vo, hρ1, .inl ⟨_, _, e1⟩⟩)
    omega
  have one0 := rec_one k0 r0
  have one1 : ∀ j, j < 2 → (D.getD (vo + j) undef).oneCell' = true := fun j hj => rec_one k1 r1 j (by simpa using hj)
  have ry : ∀ j, j < 2 → Rep Try.prog E (y.getD j .top) (D.getD (vo + j) undef) := fun j hj => by simpa using r1 0 j (by simp) hj
  have ky : cellsOK (kds Try.prog 35) y = true := by simpa using k1 0 (by simp)
  simp only [Nat.zero_mul, Nat.add_zero, Nat.zero_add] at hfit hfit1 ⊢
  simp only [List.length_singleton, List.length_cons, List.length_nil, Nat.zero_add] at hcap1 ⊢
  have hkn : ∀ k, k < (insL es (i : Int) y).length → cellsOK (kds Try.prog 35) ((insL es (i : Int) y).getD k []) = true := by
    intro k hk
    rw [insL_len hi1] at hk
    rw [insL_getD hi1]
    split
    · exact k0 _ (by omega)
    · split
      · exact ky
      · exact k0 _ (by omega)
  have fin : ∀ {w' : World} {v : Value}, Res Try.prog E (E.h.set 0 .dead ++ [.arr 35 (insL es (i : Int) y) true]) (.all E.h.length) v w' →
      ∃ v' E', Ending.returned v = Ending.returned v' ∧ E'.w = w' ∧ E'.h = [.dead, .arr 35 [y] true, .arr 35 (insL es (i : Int) y) true] ∧ TransK 2 E E' ∧ Inv Try.prog E' ∧ Rep Try.prog E' (.all 2) v' := by
    rintro w' v ⟨E', q1, q2, q3, q4, q5⟩
    refine ⟨v, E', rfl, q1, by rw [q2, hE]; rfl, q3.toK (by rw [hE]; exact Nat.le_refl _), q4, ?_⟩
    have : E.h.length = 2 := by rw [hE]; rfl
    rw [this] at q5
    exact q5
  by_cases hroom : es.length + 1 ≤ cap
  · -- in place
    refine (insShift blk o es.length cap i vb vo cap1 C D T TV E.w hilt hroom (by omega) hvb hC hD (by omega) (by omega) one0 one1).mono ?_
    rintro e w' ⟨rfl, rfl⟩
    refine fin ?_
    have hl1 : (seg C (o + i * 2) ((es.length - i) * 2)).length = (es.length - i) * 2 := seg_len (by omega)
    have hl2 : (seg D vo 2).length = 2 := seg_len (by omega)
    have hs1 : (wr C (o + (i + 1) * 2) (seg C (o + i * 2) ((es.length - i) * 2))).size = C.size := wr_size (by rw [hl1]; omega)
    have := repl_row (es := insL es (i : Int) y) (cap := cap) hI recSz e0 hρ hC (w' := (E.w.drew.setRow blk (wr C (o + (i + 1) * 2) (seg C (o + i * 2) ((es.length - i) * 2)))).setRow blk (wr (wr C (o + (i + 1) * 2) (seg C (o + i * 2) ((es.length - i) * 2))) (o + i * 2) (seg D vo 2)))
      (setRow_heap _ _ _ _ _ _ (setRow_heap E.w.drew _ _ _ _ _ hC)) (by rw [wr_size (by rw [hl2, hs1]; omega), hs1])
      (by rw [World.setRow_size, World.setRow_size]; exact Nat.le_refl _) rfl rfl rfl (fun k _ hk => by rw [setRow_other _ _ _ _ hk, setRow_other E.w.drew _ _ _ hk]; rfl)
      hkn (by rw [insL_len hi1]; omega) (fun k j hk hj => by
        rw [insL_len hi1] at hk
        rw [insL_getD hi1, wr_getD (by rw [hl2, hs1]; omega), wr_getD (by rw [hl1]; omega), hl1, hl2]
        by_cases c1 : k < i
        · rw [if_pos c1, if_neg (by omega), if_neg (by omega)]
          exact r0 k j (by omega) hj
        · rw [if_neg c1]
          by_cases c2 : k = i
          · subst c2
            rw [if_pos rfl, if_pos (by omega), show o + k * 2 + j - (o + k * 2) = j by omega, seg_getD hj]
            exact ry j hj
          · rw [if_neg c2, if_neg (by omega), if_pos (by omega), seg_getD (by omega), show o + i * 2 + (o + k * 2 + j - (o + (i + 1) * 2)) = o + (k - 1) * 2 + j by omega]
            exact r0 (k - 1) j (by omega) hj)
      (by rw [insL_len hi1]; omega) (by omega)
    rw [insL_len hi1] at this
    exact this
  · -- a new row
    obtain ⟨G, ROW, g1, g2, g3, g4⟩ := insGrow blk o es.length cap i vb vo cap1 C D T TV E.w hilt (by omega) (by omega) (by omega) hC hD (by omega) (by omega) one0 one1
    refine g4.mono ?_
    rintro e w' ⟨rfl, hw, hos, htape, hout⟩
    refine fin ?_
    have hl1 : (seg C (o + i * 2) ((es.length - i) * 2)).length = (es.length - i) * 2 := seg_len (by omega)
    have hl2 : (seg D vo 2).length = 2 := seg_len (by omega)
    have hs1 : (wr ROW (i * 2) (seg D vo 2)).size = ROW.size := wr_size (by rw [hl2]; omega)
    obtain ⟨E1, p1, p2, p3, p4⟩ := kill_env hI e0
    have hal0 : (E.w.drew.alloc (.cells ROW 35)).heap[E.w.heap.size]? = some (.cells ROW 35 (0, 0)) := by show (E.w.heap.push _)[E.w.heap.size]? = _; simp
    have hgrow : Grow E1.w w' := by
      rw [p1]
      refine ⟨?_, hos, htape, hout, fun k hk => ?_⟩
      · rw [hw, World.setRow_size, World.setRow_size]
        show _ ≤ (E.w.heap.push _).size
        simp
      · have hne : k ≠ E.w.heap.size := by omega
        rw [hw, setRow_other _ _ _ _ hne, setRow_other _ _ _ _ hne]
        show (E.w.heap.push _)[k]? = _
        simp [Array.getElem?_push, hne]
    have hwN : w'.heap[E.w.heap.size]? = some (.cells (wr (wr ROW (i * 2) (seg D vo 2)) ((i + 1) * 2) (seg C (o + i * 2) ((es.length - i) * 2))) 35 (0, 0)) := by
      rw [hw]
      exact setRow_heap _ _ _ _ _ _ (setRow_heap _ _ _ _ _ _ hal0)
    have hs2 : (wr (wr ROW (i * 2) (seg D vo 2)) ((i + 1) * 2) (seg C (o + i * 2) ((es.length - i) * 2))).size = ROW.size := by rw [wr_size (by rw [hl1, hs1]; omega), hs1]
    have := add_arr (al := none) p4 trivial 35 35 recSz (es := insL es (i : Int) y) (w' := w') (blk := E.w.heap.size) hgrow (by rw [p1]; exact Nat.le_refl _) hwN (by rw [insL_len hi1, hs2]; omega) hkn (fun k j hk hj => by
        rw [insL_len hi1] at hk
        rw [insL_getD hi1, wr_getD (by rw [hl1, hs1]; omega), wr_getD (by rw [hl2]; omega), hl1, hl2]
        refine Rep.mono hI p3 ?_
        by_cases c1 : k < i
        · rw [if_pos c1, if_neg (by omega), if_neg (by omega), g3 _ (by omega), ← Nat.add_assoc]
          exact r0 k j (by omega) hj
        · rw [if_neg c1]
          by_cases c2 : k = i
          · subst c2
            rw [if_pos rfl, if_neg (by omega), if_pos (by omega), show k * 2 + j - k * 2 = j by omega, seg_getD hj]
            exact ry j hj
          · rw [if_neg c2, if_pos (by omega), seg_getD (by omega), show o + i * 2 + (k * 2 + j - (i + 1) * 2) = o + (k - 1) * 2 + j by omega]
            exact r0 (k - 1) j (by omega) hj) (cap := G) (by rw [insL_len hi1]; exact g1) (by rw [hs2]; exact g2)
    rw [insL_len hi1] at this
    obtain ⟨E2, q1, q2, q3, q4, q5⟩ := this
    have hq : allocAt none E1.h (.arr 35 (insL es (i : Int) y) true) = (E.h.length, E.h.set 0 .dead ++ [.arr 35 (insL es (i : Int) y) true]) := by
      rw [p2]; simp [allocAt]
    rw [hq] at q2 q5
    exact ⟨E2, q1, q2, p3.trans q3, q4, q5⟩

theorem eDel : EOK Try.prog 33 gDel := eok_rows fun xs hc r hg => by
  unfold gDel at hg
  split at hg
  case h_2 => cases hg
  rename_i i j t es
  split at hg
  case isFalse => cases hg
  rename_i ht
  subst ht
  obtain ⟨hb, rfl⟩ := val_test hg
  obtain ⟨hi0, hi1, rfl, hbig⟩ := of_decide_eq_true hb
  obtain ⟨i, rfl⟩ : ∃ k : Nat, i = k := ⟨i.toNat, by omega⟩
  have hi1 : i < es.length := by omega
  refine ⟨⟨_, Try.func33, by kernel_rfl⟩, fun E vs hE hok hI hL => ?_⟩
  obtain ⟨v0, vs1, rfl, h0, hL1⟩ := repL_0 hL
  obtain ⟨v1, vs2, rfl, h1, hL2⟩ := repL_0 hL1
  obtain ⟨v2, vs3, rfl, h2, hL3⟩ := repL_0 hL2
  obtain rfl := repL_nil hL3
  obtain rfl := h1.int_inv
  obtain rfl := h2.int_inv
  have e0 : E.h[0]? = some (.arr 35 es true) := by rw [hE]; rfl
  cases h0 with | all _ n0 _ hn0 hs0 =>
  obtain rfl := hn0 _ _ _ e0
  unfold SlcAt at hs0
  rw [e0] at hs0
  obtain ⟨_, sz, A, cap, hsz, rfl, hcap, hmem⟩ := hs0
  rw [recSz] at hsz
  obtain rfl := (Option.some.inj hsz).symm
  rcases hmem with hz | ⟨blk, o, C, T, hρ, rfl, hC, hfit⟩
  · omega
  have B0 := hI.blk 0
  unfold BlkAt at B0
  rw [e0] at B0
  simp only [hρ] at B0
  obtain ⟨k0, sz, C', T', hsz, hC', f0, r0, l0, _⟩ := B0
  rw [recSz] at hsz
  obtain rfl := (Option.some.inj hsz).symm
  rw [hC] at hC'
  obtain ⟨rfl, rfl⟩ : C = C' ∧ T = T' := by cases hC'; exact ⟨rfl, rfl⟩
  have one0 := rec_one k0 r0
  simp only [Nat.zero_mul, Nat.add_zero, Nat.zero_add] at hfit ⊢
  obtain ⟨zs, z1, z2⟩ := delCut blk o es.length cap i (i + 1) C T E.w (by omega) (by omega) hcap (by omega) hC (by omega) one0
  have hcast : ((i + 1 : Nat) : Int) = (i : Int) + 1 := by omega
  rw [hcast] at z2
  refine z2.mono ?_
  rintro e w' ⟨rfl, hw, hos, htape, hout⟩
  have hn1 : i + (es.length - (i + 1)) = es.length - 1 := by omega
  rw [hn1] at z1 hw ⊢
  have hl1 : (seg C (o + (i + 1) * 2) ((es.length - (i + 1)) * 2)).length = (es.length - (i + 1)) * 2 := seg_len (by omega)
  have hs1 : (wr C (o + i * 2) (seg C (o + (i + 1) * 2) ((es.length - (i + 1)) * 2))).size = C.size := wr_size (by rw [hl1]; omega)
  have hw0 : w'.heap[blk]? = some (.cells (wr (wr C (o + i * 2) (seg C (o + (i + 1) * 2) ((es.length - (i + 1)) * 2))) (o + (es.length - 1) * 2) zs) T (0, 0)) := by
    rw [hw]
    exact setRow_heap _ _ _ _ _ _ (setRow_heap E.w.drew _ _ _ _ _ hC)
  have := repl_row (es := delL es (i : Int)) (cap := cap) hI recSz e0 hρ hC (w' := w') hw0 (by rw [wr_size (by rw [z1, hs1]; omega), hs1])
    (by rw [hw, World.setRow_size, World.setRow_size]; exact Nat.le_refl _) hos htape hout (fun k _ hk => by rw [hw, setRow_other _ _ _ _ hk, setRow_other E.w.drew _ _ _ hk]; rfl)
    (fun k hk => by
      rw [delL_len hi1] at hk
      rw [delL_getD hi1]
      split
      · exact k0 _ (by omega)
      · exact k0 _ (by omega)) (by rw [delL_len hi1]; omega) (fun k j hk hj => by
      rw [delL_len hi1] at hk
      rw [delL_getD hi1, wr_getD (by rw [z1, hs1]; omega), wr_getD (by rw [hl1]; omega), hl1, z1]
      by_cases c1 : k < i
      · rw [if_pos c1, if_neg (by omega), if_neg (by omega)]
        exact r0 k j (by omega) hj
      · rw [if_neg c1, if_neg (by omega), if_pos (by omega), seg_getD (by omega), show o + (i + 1) * 2 + (o + k * 2 + j - (o + i * 2)) = o + (k + 1) * 2 + j by omega]
        exact r0 (k + 1) j (by omega) hj)
    (by rw [delL_len hi1]; omega) (by omega)
  rw [delL_len hi1] at this
  obtain ⟨E', q1, q2, q3, q4, q5⟩ := this
  refine ⟨_, E', rfl, q1, by rw [q2, hE]; rfl, q3.toK (by rw [hE]; exact Nat.le_refl _), q4, ?_⟩
  have : E.h.length = 1 := by rw [hE]; rfl
  rw [this] at q5
  exact q5

/-- the table: Insert, Delete of records over Clone of rows -/
noncomputable abbrev XO : Ext := extT [(37, gIns), (33, gDel)] XB
theorem xO : XOK Try.prog XO := xokT xB (List.forall_mem_cons.2 ⟨eIns, List.forall_mem_cons.2 ⟨eDel, fun _ h => nomatch h⟩⟩)

end Go.Proofs.Ytinnnhiaamjjlaa

set_option linter.unusedVariables false
namespace Go.Proofs.Ytinnnhiaamjjlaa
open Go Go.Pu

theorem cloneCnt1 (e : List PV) (es : List (List PV)) : callK br Try.prog X0 M0 L0 noLS 10 64 [.lst 54 (e :: es)] [] (fun y => fixR Try.prog [] 0 y) =
    br (decide ((0 + (e :: es).length) * 32 ≤ 140737488355328)) (some (.all 0, [.arr 54 (e :: es) true])) none := by rw [← callF_eq]; kernel_rfl
theorem cloneCnt2 : callK br Try.prog X0 M0 L0 noLS 10 64 [.nils] [] (fun y => fixR Try.prog [1000000 * (2 * 54 + 1)] 0 y) =
    some (.all 0, [.arr 54 [] true]) := by rw [← callF_eq]; kernel_rfl
theorem cloneCnt3 : callK br Try.prog X0 M0 L0 noLS 10 64 [.new 54 [[]]] [] (fun y => fixR Try.prog [] 0 y) =
    some (.all 0, [.arr 54 [] true]) := by rw [← callF_eq]; kernel_rfl

theorem eCloneCnt : EOK Try.prog 64 (gClone 54 32) :=
  eokClone (fun e es h => rowAt_of mixed named x0 (noLS_ok _ _ _ _) (fuel := 10) (plan := []) ((cloneCnt1 e es).trans (br_pos (decide_eq_true h))))
    (rowAt_of mixed named x0 (noLS_ok _ _ _ _) (fuel := 10) (plan := [1000000 * (2 * 54 + 1)]) cloneCnt2)
    (rowAt_of mixed named x0 (noLS_ok _ _ _ _) (fuel := 10) (plan := []) cloneCnt3)

noncomputable abbrev XI : Ext := extT [(64, gClone 54 32)] XO
theorem xI : XOK Try.prog XI := xok1 xO eCloneCnt

end Go.Proofs.Ytinnnhiaamjjlaa

set_option linter.unusedVariables false
namespace Go.Proofs.Ytinnnhiaamjjlaa
open Go Go.Pu

/-- cmp.isNaN[int] -/
def L_cmp_isNaN_int : FuncId → Nat → Option (List Nat) := liveT []
def M_cmp_isNaN_int : FuncId → Bool := fun _ => false
def S_cmp_isNaN_int : FSp := ⟨[.one (.i .i64)], [], [], [([.one (.b)], [])]⟩
noncomputable def m_cmp_isNaN_int : List U → Rt
  | [.i v0] =>
    (.stop 0 [.b (v0 != v0)])
  | _ => .fail
set_option maxRecDepth 100000 in
theorem q_cmp_isNaN_int (v0 : Int) : callK br Try.prog XI M_cmp_isNaN_int L_cmp_isNaN_int (lsT []) 60 61 (encs [.i v0] 0 S_cmp_isNaN_int.ap) (encH [.i v0] (ws S_cmp_isNaN_int.ap) S_cmp_isNaN_int.ah) (fun y => fixR Try.prog S_cmp_isNaN_int.plan S_cmp_isNaN_int.ah.length y) =
    (m_cmp_isNaN_int [.i v0]).go br (fun _ => none) S_cmp_isNaN_int.fin := by
  rw [← callF_eq]; kernel_rfl
theorem e_cmp_isNaN_int : EOK Try.prog 61 (gI S_cmp_isNaN_int m_cmp_isNaN_int) :=
  eokTold mixed named xI (loopsOK_list rids noneIn) 60 S_cmp_isNaN_int m_cmp_isNaN_int (by
    intro us v h; unfold m_cmp_isNaN_int at h; split at h
    · rename_i v0; exact q_cmp_isNaN_int v0
    · cases h) true
noncomputable abbrev X1 : Ext := extT [(61, (gI S_cmp_isNaN_int m_cmp_isNaN_int))] XI
theorem x1 : XOK Try.prog X1 := xok1 xI e_cmp_isNaN_int

/-- cmp.Compare[int] -/
def L_cmp_Compare_int : FuncId → Nat → Option (List Nat) := liveT []
def M_cmp_Compare_int : FuncId → Bool := fun _ => false
def S_cmp_Compare_int : FSp := ⟨[.one (.i .i64), .one (.i .i64)], [], [], [([.one (.i .i64)], [])]⟩
noncomputable def m_cmp_Compare_int : List U → Rt
  | [.i v0, .i v1] =>
    (.test (v0 != v0)
    (.test (v1 != v1)
    (.stop 0 [.i ((0 : Int))])
    (.stop 0 [.i ((-1 : Int))]))
    (.test (v1 != v1)
    (.stop 0 [.i ((1 : Int))])
    (.test (decide (v0 < v1))
    (.stop 0 [.i ((-1 : Int))])
    (.test (decide (v0 > v1))
    (.stop 0 [.i ((1 : Int))])
    (.stop 0 [.i ((0 : Int))])))))
  | _ => .fail
set_option maxRecDepth 100000 in
theorem q_cmp_Compare_int (v0 : Int) (v1 : Int) : callK br Try.prog X1 M_cmp_Compare_int L_cmp_Compare_int (lsT []) 60 49 (encs [.i v0, .i v1] 0 S_cmp_Compare_int.ap) (encH [.i v0, .i v1] (ws S_cmp_Compare_int.ap) S_cmp_Compare_int.ah) (fun y => fixR Try.prog S_cmp_Compare_int.plan S_cmp_Compare_int.ah.length y) =
    (m_cmp_Compare_int [.i v0, .i v1]).go br (fun _ => none) S_cmp_Compare_int.fin := by
  rw [← callF_eq]; kernel_rfl
theorem e_cmp_Compare_int : EOK Try.prog 49 (gF S_cmp_Compare_int m_cmp_Compare_int) :=
  eokTold mixed named x1 (loopsOK_list rids noneIn) 60 S_cmp_Compare_int m_cmp_Compare_int (by
    intro us v h; unfold m_cmp_Compare_int at h; split at h
    · rename_i v0 v1; exact q_cmp_Compare_int v0 v1
    · cases h) false
noncomputable abbrev X2 : Ext := extT [(49, (gF S_cmp_Compare_int m_cmp_Compare_int))] X1
theorem x2 : XOK Try.prog X2 := xok1 x1 e_cmp_Compare_int

/-- levee/value.Compare -/
def L_value_Compare : FuncId → Nat → Option (List Nat) := liveT [(48, 3, [3, 6, 7, 8]), (48, 1000003, [3]), (48, 2000003, [2])]
def M_value_Compare : FuncId → Bool := fun _ => false
noncomputable def rd_value_Compare_48_3 : List U → Rt
  | [.i v0, .l v1, .i v2, .i v3] =>
    (.test (decide (v3 < v2))
    (.test (inR v3 (ln v1))
    (.test (cI (el v1 v3) 0 != v0)
    (.stop 0 [.i (cI (el v1 v3) 0)])
    (.next [.i v0, .l v1, .i v2, .i (w64 (v3 + (1 : Int)))]))
    .fail)
    (.stop 1 [.i v0]))
  | _ => .fail
def sp_value_Compare_48_3 : LSp := ⟨18, ⟨[(3, .one (.i .i64)), (6, .one (.l 3)), (7, .one (.i .i64)), (8, .one (.i .i64))], []⟩, [(.ret, ⟨[(2, .one (.i .i64))], []⟩), (.exit 0, ⟨[(3, .one (.i .i64))], []⟩)]⟩
set_option maxRecDepth 100000 in
theorem rq_value_Compare_48_3 (v0 : Int) (v1 : List (List PV)) (v2 : Int) (v3 : Int) : runK br Try.prog (callK br Try.prog X2 M_value_Compare L_value_Compare (lsT []) 40) M_value_Compare (lsT [] 48 0) 40 0 (L_value_Compare 48) (bodyOf Try.prog 48 3) (sp_value_Compare_48_3.s.ts sp_value_Compare_48_3.n [.i v0, .l v1, .i v2, .i v3]) (sp_value_Compare_48_3.s.h [.i v0, .l v1, .i v2, .i v3]) (idc Try.prog 0 (L_value_Compare 48) 3) =
    (rd_value_Compare_48_3 [.i v0, .l v1, .i v2, .i v3]).go br (fun us' => some (.normal, sp_value_Compare_48_3.s.ts sp_value_Compare_48_3.n us', sp_value_Compare_48_3.s.h us')) sp_value_Compare_48_3.fin := by
  rw [← callF_eq, ← runF_eq]; kernel_rfl
theorem lo_value_Compare_48_3 {R : Type} : LoopTells Try.prog X2 M_value_Compare L_value_Compare 0 (L_value_Compare 48) (bodyOf Try.prog 48 3) (gL (R := R) sp_value_Compare_48_3 rd_value_Compare_48_3 br) :=
  loopTold (callK_ev (loopsOK_list rids noneIn) 40) (lsokIn (loopsOK_list rids noneIn) 48 0 3) (by kernel_rfl) sp_value_Compare_48_3 rd_value_Compare_48_3 rfl (by kernel_rfl) (by
    intro us v h; unfold rd_value_Compare_48_3 at h; split at h
    · rename_i v0 v1 v2 v3; exact rq_value_Compare_48_3 v0 v1 v2 v3
    · cases h)
noncomputable abbrev ll_value_Compare_48_3 {R : Type} : List (Nat × Nat × Nat × Smy R) := (48, 0, 3, gL sp_value_Compare_48_3 rd_value_Compare_48_3 br) :: []
theorem lk_value_Compare_48_3 {R : Type} : ∀ e ∈ ll_value_Compare_48_3 (R := R), LoopTells Try.prog X2 M_value_Compare L_value_Compare e.2.1 (L_value_Compare e.1) (bodyOf Try.prog e.1 e.2.2.1) e.2.2.2 := List.forall_mem_cons.2 ⟨lo_value_Compare_48_3, noneIn⟩
def S_value_Compare : FSp := ⟨[.agg [.i .i64, .i .i64, .s], .agg [.i .i64, .i .i64, .s]], [], [], [([.one (.i .i64)], [])]⟩
noncomputable def m_value_Compare : List U → Rt
  | [.i v0, .i v1, .s v2, .i v3, .i v4, .s v5] =>
    (let r0 : Rs := (Rt.res (m_cmp_Compare_int [U.i v0, U.i v3]))
    (.test (ok r0 0)
    (let r1 : Rs := (Rt.res (m_cmp_Compare_int [U.i v1, U.i v4]))
    (.test (ok r1 0)
    (let r2 : Rs := (lres rd_value_Compare_48_3 [U.i (0 : Int), U.l [[pI (uI (out r0 0) 0)], [pI (uI (out r1 0) 0)], [pI (Lib.compareBytes (Array.toList (ByteArray.data v2)) (Array.toList (ByteArray.data v5)))]], U.i (3 : Int), U.i (0 : Int)])
    (.test (ok r2 0)
    (.stop 0 [.i (uI (out r2 0) 0)])
    (.test (ok r2 1)
    (.stop 0 [.i (uI (out r2 1) 0)])
    .fail)))
    .fail))
    .fail))
  | _ => .fail
set_option maxRecDepth 100000 in
theorem q_value_Compare (v0 : Int) (v1 : Int) (v2 : ByteArray) (v3 : Int) (v4 : Int) (v5 : ByteArray) : callK br Try.prog X2 M_value_Compare L_value_Compare (lsT ll_value_Compare_48_3) 60 36 (encs [.i v0, .i v1, .s v2, .i v3, .i v4, .s v5] 0 S_value_Compare.ap) (encH [.i v0, .i v1, .s v2, .i v3, .i v4, .s v5] (ws S_value_Compare.ap) S_value_Compare.ah) (fun y => fixR Try.prog S_value_Compare.plan S_value_Compare.ah.length y) =
    (m_value_Compare [.i v0, .i v1, .s v2, .i v3, .i v4, .s v5]).go br (fun _ => none) S_value_Compare.fin := by
  rw [← callF_eq]; kernel_rfl
theorem e_value_Compare : EOK Try.prog 36 (gF S_value_Compare m_value_Compare) :=
  eokTold mixed named x2 (loopsOK_list rids lk_value_Compare_48_3) 60 S_value_Compare m_value_Compare (by
    intro us v h; unfold m_value_Compare at h; split at h
    · rename_i v0 v1 v2 v3 v4 v5; exact q_value_Compare v0 v1 v2 v3 v4 v5
    · cases h) false
noncomputable abbrev X3 : Ext := extT [(36, (gF S_value_Compare m_value_Compare))] X2
theorem x3 : XOK Try.prog X3 := xok1 x2 e_value_Compare

/-- levee/key.Compare -/
def L_key_Compare : FuncId → Nat → Option (List Nat) := liveT [(76, 2, [0, 1, 2, 11, 12, 13]), (76, 1000002, [0, 1]), (76, 2000002, [6])]
def M_key_Compare : FuncId → Bool := fun _ => false
noncomputable def rd_key_Compare_76_2 : List U → Rt
  | [.l v0, .l v1, .l v2, .i v3, .i v4] =>
    (.test (decide (v4 < v3))
    (.test (inR v4 (ln v2))
    (.test (decide (v4 ≥ ln v1))
    (.stop 0 [.i ((1 : Int))])
    (.test (inR v4 (ln v1))
    (let r0 : Rs := (Rt.res (m_value_Compare [U.i (cI (el v2 v4) 0), U.i (cI (el v2 v4) 1), U.s (cS (el v2 v4) 2), U.i (cI (el v1 v4) 0), U.i (cI (el v1 v4) 1), U.s (cS (el v1 v4) 2)]))
    (.test (ok r0 0)
    (.test (uI (out r0 0) 0 != (0 : Int))
    (.stop 0 [.i (uI (out r0 0) 0)])
    (.next [.l v0, .l v1, .l v2, .i v3, .i (w64 (v4 + (1 : Int)))]))
    .fail))
    .fail))
    .fail)
    (.stop 1 [.l v0, .l v1]))
  | _ => .fail
def sp_key_Compare_76_2 : LSp := ⟨39, ⟨[(0, .one (.l 28)), (1, .one (.l 28)), (2, .fn 36 []), (11, .one (.l 28)), (12, .one (.i .i64)), (13, .one (.i .i64))], []⟩, [(.ret, ⟨[(6, .one (.i .i64))], []⟩), (.exit 0, ⟨[(0, .one (.l 28)), (1, .one (.l 28))], []⟩)]⟩
set_option maxRecDepth 100000 in
theorem rq_key_Compare_76_2 (v0 : List (List PV)) (v1 : List (List PV)) (v2 : List (List PV)) (v3 : Int) (v4 : Int) : runK br Try.prog (callK br Try.prog X3 M_key_Compare L_key_Compare (lsT []) 40) M_key_Compare (lsT [] 76 0) 40 0 (L_key_Compare 76) (bodyOf Try.prog 76 2) (sp_key_Compare_76_2.s.ts sp_key_Compare_76_2.n [.l v0, .l v1, .l v2, .i v3, .i v4]) (sp_key_Compare_76_2.s.h [.l v0, .l v1, .l v2, .i v3, .i v4]) (idc Try.prog 0 (L_key_Compare 76) 2) =
    (rd_key_Compare_76_2 [.l v0, .l v1, .l v2, .i v3, .i v4]).go br (fun us' => some (.normal, sp_key_Compare_76_2.s.ts sp_key_Compare_76_2.n us', sp_key_Compare_76_2.s.h us')) sp_key_Compare_76_2.fin := by
  rw [← callF_eq, ← runF_eq]; kernel_rfl
theorem lo_key_Compare_76_2 {R : Type} : LoopTells Try.prog X3 M_key_Compare L_key_Compare 0 (L_key_Compare 76) (bodyOf Try.prog 76 2) (gL (R := R) sp_key_Compare_76_2 rd_key_Compare_76_2 br) :=
  loopTold (callK_ev (loopsOK_list rids noneIn) 40) (lsokIn (loopsOK_list rids noneIn) 76 0 2) (by kernel_rfl) sp_key_Compare_76_2 rd_key_Compare_76_2 rfl (by kernel_rfl) (by
    intro us v h; unfold rd_key_Compare_76_2 at h; split at h
    · rename_i v0 v1 v2 v3 v4; exact rq_key_Compare_76_2 v0 v1 v2 v3 v4
    · cases h)
noncomputable abbrev ll_key_Compare_76_2 {R : Type} : List (Nat × Nat × Nat × Smy R) := (76, 0, 2, gL sp_key_Compare_76_2 rd_key_Compare_76_2 br) :: []
theorem lk_key_Compare_76_2 {R : Type} : ∀ e ∈ ll_key_Compare_76_2 (R := R), LoopTells Try.prog X3 M_key_Compare L_key_Compare e.2.1 (L_key_Compare e.1) (bodyOf Try.prog e.1 e.2.2.1) e.2.2.2 := List.forall_mem_cons.2 ⟨lo_key_Compare_76_2, noneIn⟩
def S_key_Compare : FSp := ⟨[.one (.l 28), .one (.l 28)], [], [], [([.one (.i .i64)], [])]⟩
noncomputable def m_key_Compare : List U → Rt
  | [.l v0, .l v1] =>
    (let r0 : Rs := (lres rd_key_Compare_76_2 [U.l v0, U.l v1, U.l v0, U.i (ln v0), U.i (0 : Int)])
    (.test (ok r0 0)
    (.stop 0 [.i (uI (out r0 0) 0)])
    (.test (ok r0 1)
    (.test (decide (ln (uL (out r0 1) 0) < ln (uL (out r0 1) 1)))
    (.stop 0 [.i ((-1 : Int))])
    (.stop 0 [.i ((0 : Int))]))
    .fail)))
  | _ => .fail
set_option maxRecDepth 100000 in
theorem q_key_Compare (v0 : List (List PV)) (v1 : List (List PV)) : callK br Try.prog X3 M_key_Compare L_key_Compare (lsT ll_key_Compare_76_2) 60 73 (encs [.l v0, .l v1] 0 S_key_Compare.ap) (encH [.l v0, .l v1] (ws S_key_Compare.ap) S_key_Compare.ah) (fun y => fixR Try.prog S_key_Compare.plan S_key_Compare.ah.length y) =
    (m_key_Compare [.l v0, .l v1]).go br (fun _ => none) S_key_Compare.fin := by
  rw [← callF_eq]; kernel_rfl
theorem e_key_Compare : EOK Try.prog 73 (gF S_key_Compare m_key_Compare) :=
  eokTold mixed named x3 (loopsOK_list rids lk_key_Compare_76_2) 60 S_key_Compare m_key_Compare (by
    intro us v h; unfold m_key_Compare at h; split at h
    · rename_i v0 v1; exact q_key_Compare v0 v1
    · cases h) false
noncomputable abbrev X4 : Ext := extT [(73, (gF S_key_Compare m_key_Compare))] X3
theorem x4 : XOK Try.prog X4 := xok1 x3 e_key_Compare

/-- levee/row.Compare -/
def L_row_Compare : FuncId → Nat → Option (List Nat) := liveT []
def M_row_Compare : FuncId → Bool := fun _ => false
def S_row_Compare : FSp := ⟨[.one (.l 28), .one (.l 28)], [], [], [([.one (.i .i64)], [])]⟩
noncomputable def m_row_Compare : List U → Rt
  | [.l v0, .l v1] =>
    (let r0 : Rs := (Rt.res (m_key_Compare [U.l v0, U.l v1]))
    (.test (ok r0 0)
    (.stop 0 [.i (uI (out r0 0) 0)])
    .fail))
  | _ => .fail
set_option maxRecDepth 100000 in
theorem q_row_Compare (v0 : List (List PV)) (v1 : List (List PV)) : callK br Try.prog X4 M_row_Compare L_row_Compare (lsT []) 60 67 (encs [.l v0, .l v1] 0 S_row_Compare.ap) (encH [.l v0, .l v1] (ws S_row_Compare.ap) S_row_Compare.ah) (fun y => fixR Try.prog S_row_Compare.plan S_row_Compare.ah.length y) =
    (m_row_Compare [.l v0, .l v1]).go br (fun _ => none) S_row_Compare.fin := by
  rw [← callF_eq]; kernel_rfl
theorem e_row_Compare : EOK Try.prog 67 (gF S_row_Compare m_row_Compare) :=
  eokTold mixed named x4 (loopsOK_list rids noneIn) 60 S_row_Compare m_row_Compare (by
    intro us v h; unfold m_row_Compare at h; split at h
    · rename_i v0 v1; exact q_row_Compare v0 v1
    · cases h) false
noncomputable abbrev X5 : Ext := extT [(67, (gF S_row_Compare m_row_Compare))] X4
theorem x5 : XOK Try.prog X5 := xok1 x4 e_row_Compare

/-- slices.insertionSortCmpFunc[levee/api.Count] -/
def L_slices_insertionSortCmpFunc_Count : FuncId → Nat → Option (List Nat) := liveT [(74, 4, [0, 1, 2, 3, 8, 9]), (74, 1000004, [0, 1, 2, 3, 8]), (74, 2000004, []), (74, 1, [0, 1, 2, 3, 8]), (74, 1000001, []), (74, 2000001, [])]
def M_slices_insertionSortCmpFunc_Count : FuncId → Bool := fun _ => false
noncomputable def rd_slices_insertionSortCmpFunc_Count_74_4 : List U → Rt
  | [.i v0, .i v1, .i v2, .i v3, .l v4] =>
    (.test (decide (v3 > v0))
    (.test (inR v3 (ln v4))
    (.test (decide (Int.toNat v3 < List.length v4))
    (.test (inR (w64 (v3 - (1 : Int))) (ln v4))
    (.test (decide (Int.toNat (w64 (v3 - (1 : Int))) < List.length v4))
    (let r0 : Rs := (Rt.res (m_row_Compare [U.l (cL (el v4 v3) 0), U.l (cL (el v4 (w64 (v3 - (1 : Int)))) 0)]))
    (.test (ok r0 0)
    (.test (decide (uI (out r0 0) 0 < (0 : Int)))
    (.test (inR (w64 (v3 - (1 : Int))) (ln v4))
    (.test (decide (Int.toNat (w64 (v3 - (1 : Int))) < List.length v4))
    (.test (inR v3 (ln v4))
    (.test (decide (Int.toNat v3 < List.length v4))
    (.test (inR v3 (ln v4))
    (.test (decide (Int.toNat v3 < List.length v4))
    (.test (inR (w64 (v3 - (1 : Int))) (ln (List.set v4 (Int.toNat v3) (setCells (el v4 v3) 0 [PV.lst 28 (cL (el v4 (w64 (v3 - (1 : Int)))) 0), pI (cI (el v4 (w64 (v3 - (1 : Int)))) 1)]))))
    (.test (decide (Int.toNat (w64 (v3 - (1 : Int))) < List.length (List.set v4 (Int.toNat v3) (setCells (el v4 v3) 0 [PV.lst 28 (cL (el v4 (w64 (v3 - (1 : Int)))) 0), pI (cI (el v4 (w64 (v3 - (1 : Int)))) 1)]))))
    (.next [.i v0, .i v1, .i v2, .i (w64 (v3 - (1 : Int))), .l (List.set (List.set v4 (Int.toNat v3) (setCells (el v4 v3) 0 [PV.lst 28 (cL (el v4 (w64 (v3 - (1 : Int)))) 0), pI (cI (el v4 (w64 (v3 - (1 : Int)))) 1)])) (Int.toNat (w64 (v3 - (1 : Int)))) (setCells (el (List.set v4 (Int.toNat v3) (setCells (el v4 v3) 0 [PV.lst 28 (cL (el v4 (w64 (v3 - (1 : Int)))) 0), pI (cI (el v4 (w64 (v3 - (1 : Int)))) 1)])) (w64 (v3 - (1 : Int)))) 0 [PV.lst 28 (cL (el v4 v3) 0), pI (cI (el v4 v3) 1)]))])
    .fail)
    .fail)
    .fail)
    .fail)
    .fail)
    .fail)
    .fail)
    .fail)
    (.stop 0 [.i v0, .i v1, .i v2, .l v4]))
    .fail))
    .fail)
    .fail)
    .fail)
    .fail)
    (.stop 0 [.i v0, .i v1, .i v2, .l v4]))
  | _ => .fail
def sp_slices_insertionSortCmpFunc_Count_74_4 : LSp := ⟨53, ⟨[(0, .one (.all 0)), (1, .one (.i .i64)), (2, .one (.i .i64)), (3, .fn 66 []), (8, .one (.i .i64)), (9, .one (.i .i64))], [.arr 54 true]⟩, [(.exit 2, ⟨[(0, .one (.all 0)), (1, .one (.i .i64)), (2, .one (.i .i64)), (3, .fn 66 []), (8, .one (.i .i64))], [.arr 54 true]⟩)]⟩
set_option maxRecDepth 100000 in
theorem rq_slices_insertionSortCmpFunc_Count_74_4 (v0 : Int) (v1 : Int) (v2 : Int) (v3 : Int) (v4 : List (List PV)) : runK br Try.prog (callK br Try.prog X5 M_slices_insertionSortCmpFunc_Count L_slices_insertionSortCmpFunc_Count (lsT []) 40) M_slices_insertionSortCmpFunc_Count (lsT [] 74 1) 40 1 (L_slices_insertionSortCmpFunc_Count 74) (bodyOf Try.prog 74 4) (sp_slices_insertionSortCmpFunc_Count_74_4.s.ts sp_slices_insertionSortCmpFunc_Count_74_4.n [.i v0, .i v1, .i v2, .i v3, .l v4]) (sp_slices_insertionSortCmpFunc_Count_74_4.s.h [.i v0, .i v1, .i v2, .i v3, .l v4]) (idc Try.prog 1 (L_slices_insertionSortCmpFunc_Count 74) 4) =
    (rd_slices_insertionSortCmpFunc_Count_74_4 [.i v0, .i v1, .i v2, .i v3, .l v4]).go br (fun us' => some (.normal, sp_slices_insertionSortCmpFunc_Count_74_4.s.ts sp_slices_insertionSortCmpFunc_Count_74_4.n us', sp_slices_insertionSortCmpFunc_Count_74_4.s.h us')) sp_slices_insertionSortCmpFunc_Count_74_4.fin := by
  rw [← callF_eq, ← runF_eq]; kernel_rfl
theorem lo_slices_insertionSortCmpFunc_Count_74_4 {R : Type} : LoopTells Try.prog X5 M_slices_insertionSortCmpFunc_Count L_slices_insertionSortCmpFunc_Count 1 (L_slices_insertionSortCmpFunc_Count 74) (bodyOf Try.prog 74 4) (gL (R := R) sp_slices_insertionSortCmpFunc_Count_74_4 rd_slices_insertionSortCmpFunc_Count_74_4 br) :=
  loopTold (callK_ev (loopsOK_list rids noneIn) 40) (lsokIn (loopsOK_list rids noneIn) 74 1 4) (by kernel_rfl) sp_slices_insertionSortCmpFunc_Count_74_4 rd_slices_insertionSortCmpFunc_Count_74_4 rfl (by kernel_rfl) (by
    intro us v h; unfold rd_slices_insertionSortCmpFunc_Count_74_4 at h; split at h
    · rename_i v0 v1 v2 v3 v4; exact rq_slices_insertionSortCmpFunc_Count_74_4 v0 v1 v2 v3 v4
    · cases h)
noncomputable abbrev ll_slices_insertionSortCmpFunc_Count_74_4 {R : Type} : List (Nat × Nat × Nat × Smy R) := (74, 1, 4, gL sp_slices_insertionSortCmpFunc_Count_74_4 rd_slices_insertionSortCmpFunc_Count_74_4 br) :: []
theorem lk_slices_insertionSortCmpFunc_Count_74_4 {R : Type} : ∀ e ∈ ll_slices_insertionSortCmpFunc_Count_74_4 (R := R), LoopTells Try.prog X5 M_slices_insertionSortCmpFunc_Count L_slices_insertionSortCmpFunc_Count e.2.1 (L_slices_insertionSortCmpFunc_Count e.1) (bodyOf Try.prog e.1 e.2.2.1) e.2.2.2 := List.forall_mem_cons.2 ⟨lo_slices_insertionSortCmpFunc_Count_74_4, noneIn⟩
noncomputable def rd_slices_insertionSortCmpFunc_Count_74_1 : List U → Rt
  | [.i v0, .i v1, .i v2, .l v3] =>
    (.test (decide (v2 < v1))
    (let r0 : Rs := (lres rd_slices_insertionSortCmpFunc_Count_74_4 [U.i v0, U.i v1, U.i v2, U.i v2, U.l v3])
    (.test (ok r0 0)
    (.next [.i (uI (out r0 0) 0), .i (uI (out r0 0) 1), .i (w64 (uI (out r0 0) 2 + (1 : Int))), .l (uL (out r0 0) 3)])
    .fail))
    (.stop 0 [.l v3]))
  | _ => .fail
def sp_slices_insertionSortCmpFunc_Count_74_1 : LSp := ⟨53, ⟨[(0, .one (.all 0)), (1, .one (.i .i64)), (2, .one (.i .i64)), (3, .fn 66 []), (8, .one (.i .i64))], [.arr 54 true]⟩, [(.exit 0, ⟨[], [.arr 54 true]⟩)]⟩
set_option maxRecDepth 100000 in
theorem rq_slices_insertionSortCmpFunc_Count_74_1 (v0 : Int) (v1 : Int) (v2 : Int) (v3 : List (List PV)) : runK br Try.prog (callK br Try.prog X5 M_slices_insertionSortCmpFunc_Count L_slices_insertionSortCmpFunc_Count (lsT ll_slices_insertionSortCmpFunc_Count_74_4) 40) M_slices_insertionSortCmpFunc_Count (lsT ll_slices_insertionSortCmpFunc_Count_74_4 74 1) 40 1 (L_slices_insertionSortCmpFunc_Count 74) (bodyOf Try.prog 74 1) (sp_slices_insertionSortCmpFunc_Count_74_1.s.ts sp_slices_insertionSortCmpFunc_Count_74_1.n [.i v0, .i v1, .i v2, .l v3]) (sp_slices_insertionSortCmpFunc_Count_74_1.s.h [.i v0, .i v1, .i v2, .l v3]) (idc Try.prog 1 (L_slices_insertionSortCmpFunc_Count 74) 1) =
    (rd_slices_insertionSortCmpFunc_Count_74_1 [.i v0, .i v1, .i v2, .l v3]).go br (fun us' => some (.normal, sp_slices_insertionSortCmpFunc_Count_74_1.s.ts sp_slices_insertionSortCmpFunc_Count_74_1.n us', sp_slices_insertionSortCmpFunc_Count_74_1.s.h us')) sp_slices_insertionSortCmpFunc_Count_74_1.fin := by
  rw [← callF_eq, ← runF_eq]; kernel_rfl
theorem lo_slices_insertionSortCmpFunc_Count_74_1 {R : Type} : LoopTells Try.prog X5 M_slices_insertionSortCmpFunc_Count L_slices_insertionSortCmpFunc_Count 1 (L_slices_insertionSortCmpFunc_Count 74) (bodyOf Try.prog 74 1) (gL (R := R) sp_slices_insertionSortCmpFunc_Count_74_1 rd_slices_insertionSortCmpFunc_Count_74_1 br) :=
  loopTold (callK_ev (loopsOK_list rids lk_slices_insertionSortCmpFunc_Count_74_4) 40) (lsokIn (loopsOK_list rids lk_slices_insertionSortCmpFunc_Count_74_4) 74 1 1) (by kernel_rfl) sp_slices_insertionSortCmpFunc_Count_74_1 rd_slices_insertionSortCmpFunc_Count_74_1 rfl (by kernel_rfl) (by
    intro us v h; unfold rd_slices_insertionSortCmpFunc_Count_74_1 at h; split at h
    · rename_i v0 v1 v2 v3; exact rq_slices_insertionSortCmpFunc_Count_74_1 v0 v1 v2 v3
    · cases h)
noncomputable abbrev ll_slices_insertionSortCmpFunc_Count_74_1 {R : Type} : List (Nat × Nat × Nat × Smy R) := (74, 1, 1, gL sp_slices_insertionSortCmpFunc_Count_74_1 rd_slices_insertionSortCmpFunc_Count_74_1 br) :: ll_slices_insertionSortCmpFunc_Count_74_4
theorem lk_slices_insertionSortCmpFunc_Count_74_1 {R : Type} : ∀ e ∈ ll_slices_insertionSortCmpFunc_Count_74_1 (R := R), LoopTells Try.prog X5 M_slices_insertionSortCmpFunc_Count L_slices_insertionSortCmpFunc_Count e.2.1 (L_slices_insertionSortCmpFunc_Count e.1) (bodyOf Try.prog e.1 e.2.2.1) e.2.2.2 := List.forall_mem_cons.2 ⟨lo_slices_insertionSortCmpFunc_Count_74_1, lk_slices_insertionSortCmpFunc_Count_74_4⟩
def S_slices_insertionSortCmpFunc_Count : FSp := ⟨[.one (.all 0), .one (.i .i64), .one (.i .i64), .fn 66 []], [.arr 54 true], [], [([], [.arr 54 true])]⟩
noncomputable def m_slices_insertionSortCmpFunc_Count : List U → Rt
  | [.i v0, .i v1, .l v2] =>
    (let r0 : Rs := (lres rd_slices_insertionSortCmpFunc_Count_74_1 [U.i v0, U.i v1, U.i (w64 (v0 + (1 : Int))), U.l v2])
    (.test (ok r0 0)
    (.stop 0 [.l (uL (out r0 0) 0)])
    .fail))
  | _ => .fail
set_option maxRecDepth 100000 in
theorem q_slices_insertionSortCmpFunc_Count (v0 : Int) (v1 : Int) (v2 : List (List PV)) : callK br Try.prog X5 M_slices_insertionSortCmpFunc_Count L_slices_insertionSortCmpFunc_Count (lsT ll_slices_insertionSortCmpFunc_Count_74_1) 60 74 (encs [.i v0, .i v1, .l v2] 0 S_slices_insertionSortCmpFunc_Count.ap) (encH [.i v0, .i v1, .l v2] (ws S_slices_insertionSortCmpFunc_Count.ap) S_slices_insertionSortCmpFunc_Count.ah) (fun y => fixR Try.prog S_slices_insertionSortCmpFunc_Count.plan S_slices_insertionSortCmpFunc_Count.ah.length y) =
    (m_slices_insertionSortCmpFunc_Count [.i v0, .i v1, .l v2]).go br (fun _ => none) S_slices_insertionSortCmpFunc_Count.fin := by
  rw [← callF_eq]; kernel_rfl
theorem e_slices_insertionSortCmpFunc_Count : EOK Try.prog 74 (gF S_slices_insertionSortCmpFunc_Count m_slices_insertionSortCmpFunc_Count) :=
  eokTold mixed named x5 (loopsOK_list rids lk_slices_insertionSortCmpFunc_Count_74_1) 60 S_slices_insertionSortCmpFunc_Count m_slices_insertionSortCmpFunc_Count (by
    intro us v h; unfold m_slices_insertionSortCmpFunc_Count at h; split at h
    · rename_i v0 v1 v2; exact q_slices_insertionSortCmpFunc_Count v0 v1 v2
    · cases h) false
noncomputable abbrev X6 : Ext := extT [(74, (gF S_slices_insertionSortCmpFunc_Count m_slices_insertionSortCmpFunc_Count))] X5
theorem x6 : XOK Try.prog X6 := xok1 x5 e_slices_insertionSortCmpFunc_Count

/-- slices.swapRangeCmpFunc[levee/api.Count] -/
def L_slices_swapRangeCmpFunc_Count : FuncId → Nat → Option (List Nat) := liveT [(78, 1, [0, 1, 2, 3, 10]), (78, 1000001, []), (78, 2000001, [])]
def M_slices_swapRangeCmpFunc_Count : FuncId → Bool := fun _ => false
noncomputable def rd_slices_swapRangeCmpFunc_Count_78_1 : List U → Rt
  | [.i v0, .i v1, .i v2, .i v3, .l v4] =>
    (.test (decide (v3 < v2))
    (.test (inR (w64 (v1 + v3)) (ln v4))
    (.test (decide (Int.toNat (w64 (v1 + v3)) < List.length v4))
    (.test (inR (w64 (v0 + v3)) (ln v4))
    (.test (decide (Int.toNat (w64 (v0 + v3)) < List.length v4))
    (.test (inR (w64 (v0 + v3)) (ln v4))
    (.test (decide (Int.toNat (w64 (v0 + v3)) < List.length v4))
    (.test (inR (w64 (v1 + v3)) (ln (List.set v4 (Int.toNat (w64 (v0 + v3))) (setCells (el v4 (w64 (v0 + v3))) 0 [PV.lst 28 (cL (el v4 (w64 (v1 + v3))) 0), pI (cI (el v4 (w64 (v1 + v3))) 1)]))))
    (.test (decide (Int.toNat (w64 (v1 + v3)) < List.length (List.set v4 (Int.toNat (w64 (v0 + v3))) (setCells (el v4 (w64 (v0 + v3))) 0 [PV.lst 28 (cL (el v4 (w64 (v1 + v3))) 0), pI (cI (el v4 (w64 (v1 + v3))) 1)]))))
    (.next [.i v0, .i v1, .i v2, .i (w64 (v3 + (1 : Int))), .l (List.set (List.set v4 (Int.toNat (w64 (v0 + v3))) (setCells (el v4 (w64 (v0 + v3))) 0 [PV.lst 28 (cL (el v4 (w64 (v1 + v3))) 0), pI (cI (el v4 (w64 (v1 + v3))) 1)])) (Int.toNat (w64 (v1 + v3))) (setCells (el (List.set v4 (Int.toNat (w64 (v0 + v3))) (setCells (el v4 (w64 (v0 + v3))) 0 [PV.lst 28 (cL (el v4 (w64 (v1 + v3))) 0), pI (cI (el v4 (w64 (v1 + v3))) 1)])) (w64 (v1 + v3))) 0 [PV.lst 28 (cL (el v4 (w64 (v0 + v3))) 0), pI (cI (el v4 (w64 (v0 + v3))) 1)]))])
    .fail)
    .fail)
    .fail)
    .fail)
    .fail)
    .fail)
    .fail)
    .fail)
    (.stop 0 [.l v4]))
  | _ => .fail
def sp_slices_swapRangeCmpFunc_Count_78_1 : LSp := ⟨38, ⟨[(0, .one (.all 0)), (1, .one (.i .i64)), (2, .one (.i .i64)), (3, .one (.i .i64)), (10, .one (.i .i64))], [.arr 54 true]⟩, [(.exit 0, ⟨[], [.arr 54 true]⟩)]⟩
set_option maxRecDepth 100000 in
theorem rq_slices_swapRangeCmpFunc_Count_78_1 (v0 : Int) (v1 : Int) (v2 : Int) (v3 : Int) (v4 : List (List PV)) : runK br Try.prog (callK br Try.prog X6 M_slices_swapRangeCmpFunc_Count L_slices_swapRangeCmpFunc_Count (lsT []) 40) M_slices_swapRangeCmpFunc_Count (lsT [] 78 1) 40 1 (L_slices_swapRangeCmpFunc_Count 78) (bodyOf Try.prog 78 1) (sp_slices_swapRangeCmpFunc_Count_78_1.s.ts sp_slices_swapRangeCmpFunc_Count_78_1.n [.i v0, .i v1, .i v2, .i v3, .l v4]) (sp_slices_swapRangeCmpFunc_Count_78_1.s.h [.i v0, .i v1, .i v2, .i v3, .l v4]) (idc Try.prog 1 (L_slices_swapRangeCmpFunc_Count 78) 1) =
    (rd_slices_swapRangeCmpFunc_Count_78_1 [.i v0, .i v1, .i v2, .i v3, .l v4]).go br (fun us' => some (.normal, sp_slices_swapRangeCmpFunc_Count_78_1.s.ts sp_slices_swapRangeCmpFunc_Count_78_1.n us', sp_slices_swapRangeCmpFunc_Count_78_1.s.h us')) sp_slices_swapRangeCmpFunc_Count_78_1.fin := by
  rw [← callF_eq, ← runF_eq]; kernel_rfl
theorem lo_slices_swapRangeCmpFunc_Count_78_1 {R : Type} : LoopTells Try.prog X6 M_slices_swapRangeCmpFunc_Count L_slices_swapRangeCmpFunc_Count 1 (L_slices_swapRangeCmpFunc_Count 78) (bodyOf Try.prog 78 1) (gL (R := R) sp_slices_swapRangeCmpFunc_Count_78_1 rd_slices_swapRangeCmpFunc_Count_78_1 br) :=
  loopTold (callK_ev (loopsOK_list rids noneIn) 40) (lsokIn (loopsOK_list rids noneIn) 78 1 1) (by kernel_rfl) sp_slices_swapRangeCmpFunc_Count_78_1 rd_slices_swapRangeCmpFunc_Count_78_1 rfl (by kernel_rfl) (by
    intro us v h; unfold rd_slices_swapRangeCmpFunc_Count_78_1 at h; split at h
    · rename_i v0 v1 v2 v3 v4; exact rq_slices_swapRangeCmpFunc_Count_78_1 v0 v1 v2 v3 v4
    · cases h)
noncomputable abbrev ll_slices_swapRangeCmpFunc_Count_78_1 {R : Type} : List (Nat × Nat × Nat × Smy R) := (78, 1, 1, gL sp_slices_swapRangeCmpFunc_Count_78_1 rd_slices_swapRangeCmpFunc_Count_78_1 br) :: []
theorem lk_slices_swapRangeCmpFunc_Count_78_1 {R : Type} : ∀ e ∈ ll_slices_swapRangeCmpFunc_Count_78_1 (R := R), LoopTells Try.prog X6 M_slices_swapRangeCmpFunc_Count L_slices_swapRangeCmpFunc_Count e.2.1 (L_slices_swapRangeCmpFunc_Count e.1) (bodyOf Try.prog e.1 e.2.2.1) e.2.2.2 := List.forall_mem_cons.2 ⟨lo_slices_swapRangeCmpFunc_Count_78_1, noneIn⟩
def S_slices_swapRangeCmpFunc_Count : FSp := ⟨[.one (.all 0), .one (.i .i64), .one (.i .i64), .one (.i .i64), .fn 66 []], [.arr 54 true], [], [([], [.arr 54 true])]⟩
noncomputable def m_slices_swapRangeCmpFunc_Count : List U → Rt
  | [.i v0, .i v1, .i v2, .l v3] =>
    (let r0 : Rs := (lres rd_slices_swapRangeCmpFunc_Count_78_1 [U.i v0, U.i v1, U.i v2, U.i (0 : Int), U.l v3])
    (.test (ok r0 0)
    (.stop 0 [.l (uL (out r0 0) 0)])
    .fail))
  | _ => .fail
set_option maxRecDepth 100000 in
theorem q_slices_swapRangeCmpFunc_Count (v0 : Int) (v1 : Int) (v2 : Int) (v3 : List (List PV)) : callK br Try.prog X6 M_slices_swapRangeCmpFunc_Count L_slices_swapRangeCmpFunc_Count (lsT ll_slices_swapRangeCmpFunc_Count_78_1) 60 78 (encs [.i v0, .i v1, .i v2, .l v3] 0 S_slices_swapRangeCmpFunc_Count.ap) (encH [.i v0, .i v1, .i v2, .l v3] (ws S_slices_swapRangeCmpFunc_Count.ap) S_slices_swapRangeCmpFunc_Count.ah) (fun y => fixR Try.prog S_slices_swapRangeCmpFunc_Count.plan S_slices_swapRangeCmpFunc_Count.ah.length y) =
    (m_slices_swapRangeCmpFunc_Count [.i v0, .i v1, .i v2, .l v3]).go br (fun _ => none) S_slices_swapRangeCmpFunc_Count.fin := by
  rw [← callF_eq]; kernel_rfl
theorem e_slices_swapRangeCmpFunc_Count : EOK Try.prog 78 (gF S_slices_swapRangeCmpFunc_Count m_slices_swapRangeCmpFunc_Count) :=
  eokTold mixed named x6 (loopsOK_list rids lk_slices_swapRangeCmpFunc_Count_78_1) 60 S_slices_swapRangeCmpFunc_Count m_slices_swapRangeCmpFunc_Count (by
    intro us v h; unfold m_slices_swapRangeCmpFunc_Count at h; split at h
    · rename_i v0 v1 v2 v3; exact q_slices_swapRangeCmpFunc_Count v0 v1 v2 v3
    · cases h) false
noncomputable abbrev X7 : Ext := extT [(78, (gF S_slices_swapRangeCmpFunc_Count m_slices_swapRangeCmpFunc_Count))] X6
theorem x7 : XOK Try.prog X7 := xok1 x6 e_slices_swapRangeCmpFunc_Count

/-- slices.rotateCmpFunc[levee/api.Count] -/
def L_slices_rotateCmpFunc_Count : FuncId → Nat → Option (List Nat) := liveT [(77, 2, [0, 2, 4, 10, 11]), (77, 1000002, [0, 2, 4, 10]), (77, 2000002, [])]
def M_slices_rotateCmpFunc_Count : FuncId → Bool := fun f => f == 78
noncomputable def rd_slices_rotateCmpFunc_Count_77_2 : List U → Rt
  | [.i v0, .i v1, .i v2, .l v3] =>
    (.test (v1 != v2)
    (.test (decide (v1 > v2))
    (let r0 : Rs := (Rt.res (m_slices_swapRangeCmpFunc_Count [U.i (w64 (v0 - v1)), U.i v0, U.i v2, U.l v3]))
    (.test (ok r0 0)
    (.next [.i v0, .i (w64 (v1 - v2)), .i v2, .l (uL (out r0 0) 0)])
    .fail))
    (let r1 : Rs := (Rt.res (m_slices_swapRangeCmpFunc_Count [U.i (w64 (v0 - v1)), U.i (w64 (w64 (v0 + v2) - v1)), U.i v1, U.l v3]))
    (.test (ok r1 0)
    (.next [.i v0, .i v1, .i (w64 (v2 - v1)), .l (uL (out r1 0) 0)])
    .fail)))
    (.stop 0 [.i v0, .i v1, .l v3]))
  | _ => .fail
def sp_slices_rotateCmpFunc_Count_77_2 : LSp := ⟨58, ⟨[(0, .one (.all 0)), (2, .one (.i .i64)), (4, .fn 66 []), (10, .one (.i .i64)), (11, .one (.i .i64))], [.arr 54 true]⟩, [(.exit 0, ⟨[(0, .one (.all 0)), (2, .one (.i .i64)), (4, .fn 66 []), (10, .one (.i .i64))], [.arr 54 true]⟩)]⟩
set_option maxRecDepth 100000 in
theorem rq_slices_rotateCmpFunc_Count_77_2 (v0 : Int) (v1 : Int) (v2 : Int) (v3 : List (List PV)) : runK br Try.prog (callK br Try.prog X7 M_slices_rotateCmpFunc_Count L_slices_rotateCmpFunc_Count (lsT []) 40) M_slices_rotateCmpFunc_Count (lsT [] 77 1) 40 1 (L_slices_rotateCmpFunc_Count 77) (bodyOf Try.prog 77 2) (sp_slices_rotateCmpFunc_Count_77_2.s.ts sp_slices_rotateCmpFunc_Count_77_2.n [.i v0, .i v1, .i v2, .l v3]) (sp_slices_rotateCmpFunc_Count_77_2.s.h [.i v0, .i v1, .i v2, .l v3]) (idc Try.prog 1 (L_slices_rotateCmpFunc_Count 77) 2) =
    (rd_slices_rotateCmpFunc_Count_77_2 [.i v0, .i v1, .i v2, .l v3]).go br (fun us' => some (.normal, sp_slices_rotateCmpFunc_Count_77_2.s.ts sp_slices_rotateCmpFunc_Count_77_2.n us', sp_slices_rotateCmpFunc_Count_77_2.s.h us')) sp_slices_rotateCmpFunc_Count_77_2.fin := by
  rw [← callF_eq, ← runF_eq]; kernel_rfl
theorem lo_slices_rotateCmpFunc_Count_77_2 {R : Type} : LoopTells Try.prog X7 M_slices_rotateCmpFunc_Count L_slices_rotateCmpFunc_Count 1 (L_slices_rotateCmpFunc_Count 77) (bodyOf Try.prog 77 2) (gL (R := R) sp_slices_rotateCmpFunc_Count_77_2 rd_slices_rotateCmpFunc_Count_77_2 br) :=
  loopTold (callK_ev (loopsOK_list rids noneIn) 40) (lsokIn (loopsOK_list rids noneIn) 77 1 2) (by kernel_rfl) sp_slices_rotateCmpFunc_Count_77_2 rd_slices_rotateCmpFunc_Count_77_2 rfl (by kernel_rfl) (by
    intro us v h; unfold rd_slices_rotateCmpFunc_Count_77_2 at h; split at h
    · rename_i v0 v1 v2 v3; exact rq_slices_rotateCmpFunc_Count_77_2 v0 v1 v2 v3
    · cases h)
noncomputable abbrev ll_slices_rotateCmpFunc_Count_77_2 {R : Type} : List (Nat × Nat × Nat × Smy R) := (77, 1, 2, gL sp_slices_rotateCmpFunc_Count_77_2 rd_slices_rotateCmpFunc_Count_77_2 br) :: []
theorem lk_slices_rotateCmpFunc_Count_77_2 {R : Type} : ∀ e ∈ ll_slices_rotateCmpFunc_Count_77_2 (R := R), LoopTells Try.prog X7 M_slices_rotateCmpFunc_Count L_slices_rotateCmpFunc_Count e.2.1 (L_slices_rotateCmpFunc_Count e.1) (bodyOf Try.prog e.1 e.2.2.1) e.2.2.2 := List.forall_mem_cons.2 ⟨lo_slices_rotateCmpFunc_Count_77_2, noneIn⟩
def S_slices_rotateCmpFunc_Count : FSp := ⟨[.one (.all 0), .one (.i .i64), .one (.i .i64), .one (.i .i64), .fn 66 []], [.arr 54 true], [], [([], [.arr 54 true])]⟩
noncomputable def m_slices_rotateCmpFunc_Count : List U → Rt
  | [.i v0, .i v1, .i v2, .l v3] =>
    (let r0 : Rs := (lres rd_slices_rotateCmpFunc_Count_77_2 [U.i v1, U.i (w64 (v1 - v0)), U.i (w64 (v2 - v1)), U.l v3])
    (.test (ok r0 0)
    (let r1 : Rs := (Rt.res (m_slices_swapRangeCmpFunc_Count [U.i (w64 (uI (out r0 0) 0 - uI (out r0 0) 1)), U.i (uI (out r0 0) 0), U.i (uI (out r0 0) 1), U.l (uL (out r0 0) 2)]))
    (.test (ok r1 0)
    (.stop 0 [.l (uL (out r1 0) 0)])
    .fail))
    .fail))
  | _ => .fail
set_option maxRecDepth 100000 in
theorem q_slices_rotateCmpFunc_Count (v0 : Int) (v1 : Int) (v2 : Int) (v3 : List (List PV)) : callK br Try.prog X7 M_slices_rotateCmpFunc_Count L_slices_rotateCmpFunc_Count (lsT ll_slices_rotateCmpFunc_Count_77_2) 60 77 (encs [.i v0, .i v1, .i v2, .l v3] 0 S_slices_rotateCmpFunc_Count.ap) (encH [.i v0, .i v1, .i v2, .l v3] (ws S_slices_rotateCmpFunc_Count.ap) S_slices_rotateCmpFunc_Count.ah) (fun y => fixR Try.prog S_slices_rotateCmpFunc_Count.plan S_slices_rotateCmpFunc_Count.ah.length y) =
    (m_slices_rotateCmpFunc_Count [.i v0, .i v1, .i v2, .l v3]).go br (fun _ => none) S_slices_rotateCmpFunc_Count.fin := by
  rw [← callF_eq]; kernel_rfl
theorem e_slices_rotateCmpFunc_Count : EOK Try.prog 77 (gF S_slices_rotateCmpFunc_Count m_slices_rotateCmpFunc_Count) :=
  eokTold mixed named x7 (loopsOK_list rids lk_slices_rotateCmpFunc_Count_77_2) 60 S_slices_rotateCmpFunc_Count m_slices_rotateCmpFunc_Count (by
    intro us v h; unfold m_slices_rotateCmpFunc_Count at h; split at h
    · rename_i v0 v1 v2 v3; exact q_slices_rotateCmpFunc_Count v0 v1 v2 v3
    · cases h) false
noncomputable abbrev X8 : Ext := extT [(77, (gF S_slices_rotateCmpFunc_Count m_slices_rotateCmpFunc_Count))] X7
theorem x8 : XOK Try.prog X8 := xok1 x7 e_slices_rotateCmpFunc_Count

/-- slices.symMergeCmpFunc[levee/api.Count] -/
def L_slices_symMergeCmpFunc_Count : FuncId → Nat → Option (List Nat) := liveT [(75, 3, [0, 1, 4, 10, 11]), (75, 1000003, [0, 1, 10]), (75, 2000003, []), (75, 9, [0, 10, 13]), (75, 1000009, []), (75, 2000009, []), (75, 15, [0, 2, 4, 14, 15]), (75, 1000015, [0, 2, 14]), (75, 2000015, []), (75, 21, [0, 14, 17]), (75, 1000021, []), (75, 2000021, []), (75, 33, [0, 1, 2, 3, 4, 18, 19, 20, 21, 22]), (75, 1000033, [0, 1, 2, 3, 4, 18, 19, 20]), (75, 2000033, [])]
def M_slices_symMergeCmpFunc_Count : FuncId → Bool := fun f => f == 75 || f == 77
def S_slices_symMergeCmpFunc_Count : FSp := ⟨[.one (.all 0), .one (.i .i64), .one (.i .i64), .one (.i .i64), .fn 66 []], [.arr 54 true], [], [([], [.arr 54 true])]⟩
noncomputable def rd_slices_symMergeCmpFunc_Count_75_3 : List U → Rt
  | [.i v0, .i v1, .i v2, .l v3] =>
    (.test (decide (v1 < v2))
    (.test (inR (w64 (Int.fdiv (IntKind.wrap IntKind.u64 (w64 (v1 + v2))) (2 : Int))) (ln v3))
    (.test (decide (Int.toNat (w64 (Int.fdiv (IntKind.wrap IntKind.u64 (w64 (v1 + v2))) (2 : Int))) < List.length v3))
    (.test (inR v0 (ln v3))
    (.test (decide (Int.toNat v0 < List.length v3))
    (let r0 : Rs := (Rt.res (m_row_Compare [U.l (cL (el v3 (w64 (Int.fdiv (IntKind.wrap IntKind.u64 (w64 (v1 + v2))) (2 : Int)))) 0), U.l (cL (el v3 v0) 0)]))
    (.test (ok r0 0)
    (.test (decide (uI (out r0 0) 0 < (0 : Int)))
    (.next [.i v0, .i (w64 (w64 (Int.fdiv (IntKind.wrap IntKind.u64 (w64 (v1 + v2))) (2 : Int)) + (1 : Int))), .i v2, .l v3])
    (.next [.i v0, .i v1, .i (w64 (Int.fdiv (IntKind.wrap IntKind.u64 (w64 (v1 + v2))) (2 : Int))), .l v3]))
    .fail))
    .fail)
    .fail)
    .fail)
    .fail)
    (.stop 0 [.i v0, .i v1, .l v3]))
  | _ => .fail
def sp_slices_symMergeCmpFunc_Count_75_3 : LSp := ⟨220, ⟨[(0, .one (.all 0)), (1, .one (.i .i64)), (4, .fn 66 []), (10, .one (.i .i64)), (11, .one (.i .i64))], [.arr 54 true]⟩, [(.exit 0, ⟨[(0, .one (.all 0)), (1, .one (.i .i64)), (10, .one (.i .i64))], [.arr 54 true]⟩)]⟩
set_option maxRecDepth 100000 in
theorem rq_slices_symMergeCmpFunc_Count_75_3 (mr : List U → Rt) (v0 : Int) (v1 : Int) (v2 : Int) (v3 : List (List PV)) : runK br Try.prog (callK br Try.prog (extT [(75, gF S_slices_symMergeCmpFunc_Count mr)] X8) M_slices_symMergeCmpFunc_Count L_slices_symMergeCmpFunc_Count (lsT []) 40) M_slices_symMergeCmpFunc_Count (lsT [] 75 1) 40 1 (L_slices_symMergeCmpFunc_Count 75) (bodyOf Try.prog 75 3) (sp_slices_symMergeCmpFunc_Count_75_3.s.ts sp_slices_symMergeCmpFunc_Count_75_3.n [.i v0, .i v1, .i v2, .l v3]) (sp_slices_symMergeCmpFunc_Count_75_3.s.h [.i v0, .i v1, .i v2, .l v3]) (idc Try.prog 1 (L_slices_symMergeCmpFunc_Count 75) 3) =
    (rd_slices_symMergeCmpFunc_Count_75_3 [.i v0, .i v1, .i v2, .l v3]).go br (fun us' => some (.normal, sp_slices_symMergeCmpFunc_Count_75_3.s.ts sp_slices_symMergeCmpFunc_Count_75_3.n us', sp_slices_symMergeCmpFunc_Count_75_3.s.h us')) sp_slices_symMergeCmpFunc_Count_75_3.fin := by
  rw [← callF_eq, ← runF_eq]; kernel_rfl
theorem lo_slices_symMergeCmpFunc_Count_75_3 {R : Type} (mr : List U → Rt) : LoopTells Try.prog (extT [(75, gF S_slices_symMergeCmpFunc_Count mr)] X8) M_slices_symMergeCmpFunc_Count L_slices_symMergeCmpFunc_Count 1 (L_slices_symMergeCmpFunc_Count 75) (bodyOf Try.prog 75 3) (gL (R := R) sp_slices_symMergeCmpFunc_Count_75_3 rd_slices_symMergeCmpFunc_Count_75_3 br) :=
  loopTold (callK_ev (loopsOK_list rids noneIn) 40) (lsokIn (loopsOK_list rids noneIn) 75 1 3) (by kernel_rfl) sp_slices_symMergeCmpFunc_Count_75_3 rd_slices_symMergeCmpFunc_Count_75_3 rfl (by kernel_rfl) (by
    intro us v h; unfold rd_slices_symMergeCmpFunc_Count_75_3 at h; split at h
    · rename_i v0 v1 v2 v3; exact rq_slices_symMergeCmpFunc_Count_75_3 mr v0 v1 v2 v3
    · cases h)
noncomputable abbrev ll_slices_symMergeCmpFunc_Count_75_3 {R : Type} : List (Nat × Nat × Nat × Smy R) := (75, 1, 3, gL sp_slices_symMergeCmpFunc_Count_75_3 rd_slices_symMergeCmpFunc_Count_75_3 br) :: []
theorem lk_slices_symMergeCmpFunc_Count_75_3 {R : Type} (mr : List U → Rt) : ∀ e ∈ ll_slices_symMergeCmpFunc_Count_75_3 (R := R), LoopTells Try.prog (extT [(75, gF S_slices_symMergeCmpFunc_Count mr)] X8) M_slices_symMergeCmpFunc_Count L_slices_symMergeCmpFunc_Count e.2.1 (L_slices_symMergeCmpFunc_Count e.1) (bodyOf Try.prog e.1 e.2.2.1) e.2.2.2 := List.forall_mem_cons.2 ⟨lo_slices_symMergeCmpFunc_Count_75_3 mr, noneIn⟩
noncomputable def rd_slices_symMergeCmpFunc_Count_75_9 : List U → Rt
  | [.i v0, .i v1, .l v2] =>
    (.test (decide (v1 < w64 (v0 - (1 : Int))))
    (.test (inR (w64 (v1 + (1 : Int))) (ln v2))
    (.test (decide (Int.toNat (w64 (v1 + (1 : Int))) < List.length v2))
    (.test (inR v1 (ln v2))
    (.test (decide (Int.toNat v1 < List.length v2))
    (.test (inR v1 (ln v2))
    (.test (decide (Int.toNat v1 < List.length v2))
    (.test (inR (w64 (v1 + (1 : Int))) (ln (List.set v2 (Int.toNat v1) (setCells (el v2 v1) 0 [PV.lst 28 (cL (el v2 (w64 (v1 + (1 : Int)))) 0), pI (cI (el v2 (w64 (v1 + (1 : Int)))) 1)]))))
    (.test (decide (Int.toNat (w64 (v1 + (1 : Int))) < List.length (List.set v2 (Int.toNat v1) (setCells (el v2 v1) 0 [PV.lst 28 (cL (el v2 (w64 (v1 + (1 : Int)))) 0), pI (cI (el v2 (w64 (v1 + (1 : Int)))) 1)]))))
    (.next [.i v0, .i (w64 (v1 + (1 : Int))), .l (List.set (List.set v2 (Int.toNat v1) (setCells (el v2 v1) 0 [PV.lst 28 (cL (el v2 (w64 (v1 + (1 : Int)))) 0), pI (cI (el v2 (w64 (v1 + (1 : Int)))) 1)])) (Int.toNat (w64 (v1 + (1 : Int)))) (setCells (el (List.set v2 (Int.toNat v1) (setCells (el v2 v1) 0 [PV.lst 28 (cL (el v2 (w64 (v1 + (1 : Int)))) 0), pI (cI (el v2 (w64 (v1 + (1 : Int)))) 1)])) (w64 (v1 + (1 : Int)))) 0 [PV.lst 28 (cL (el v2 v1) 0), pI (cI (el v2 v1) 1)]))])
    .fail)
    .fail)
    .fail)
    .fail)
    .fail)
    .fail)
    .fail)
    .fail)
    (.stop 0 [.l v2]))
  | _ => .fail
def sp_slices_symMergeCmpFunc_Count_75_9 : LSp := ⟨220, ⟨[(0, .one (.all 0)), (10, .one (.i .i64)), (13, .one (.i .i64))], [.arr 54 true]⟩, [(.exit 2, ⟨[], [.arr 54 true]⟩)]⟩
set_option maxRecDepth 100000 in
theorem rq_slices_symMergeCmpFunc_Count_75_9 (mr : List U → Rt) (v0 : Int) (v1 : Int) (v2 : List (List PV)) : runK br Try.prog (callK br Try.prog (extT [(75, gF S_slices_symMergeCmpFunc_Count mr)] X8) M_slices_symMergeCmpFunc_Count L_slices_symMergeCmpFunc_Count (lsT ll_slices_symMergeCmpFunc_Count_75_3) 40) M_slices_symMergeCmpFunc_Count (lsT ll_slices_symMergeCmpFunc_Count_75_3 75 1) 40 1 (L_slices_symMergeCmpFunc_Count 75) (bodyOf Try.prog 75 9) (sp_slices_symMergeCmpFunc_Count_75_9.s.ts sp_slices_symMergeCmpFunc_Count_75_9.n [.i v0, .i v1, .l v2]) (sp_slices_symMergeCmpFunc_Count_75_9.s.h [.i v0, .i v1, .l v2]) (idc Try.prog 1 (L_slices_symMergeCmpFunc_Count 75) 9) =
    (rd_slices_symMergeCmpFunc_Count_75_9 [.i v0, .i v1, .l v2]).go br (fun us' => some (.normal, sp_slices_symMergeCmpFunc_Count_75_9.s.ts sp_slices_symMergeCmpFunc_Count_75_9.n us', sp_slices_symMergeCmpFunc_Count_75_9.s.h us')) sp_slices_symMergeCmpFunc_Count_75_9.fin := by
  rw [← callF_eq, ← runF_eq]; kernel_rfl
theorem lo_slices_symMergeCmpFunc_Count_75_9 {R : Type} (mr : List U → Rt) : LoopTells Try.prog (extT [(75, gF S_slices_symMergeCmpFunc_Count mr)] X8) M_slices_symMergeCmpFunc_Count L_slices_symMergeCmpFunc_Count 1 (L_slices_symMergeCmpFunc_Count 75) (bodyOf Try.prog 75 9) (gL (R := R) sp_slices_symMergeCmpFunc_Count_75_9 rd_slices_symMergeCmpFunc_Count_75_9 br) :=
  loopTold (callK_ev (loopsOK_list rids (lk_slices_symMergeCmpFunc_Count_75_3 mr)) 40) (lsokIn (loopsOK_list rids (lk_slices_symMergeCmpFunc_Count_75_3 mr)) 75 1 9) (by kernel_rfl) sp_slices_symMergeCmpFunc_Count_75_9 rd_slices_symMergeCmpFunc_Count_75_9 rfl (by kernel_rfl) (by
    intro us v h; unfold rd_slices_symMergeCmpFunc_Count_75_9 at h; split at h
    · rename_i v0 v1 v2; exact rq_slices_symMergeCmpFunc_Count_75_9 mr v0 v1 v2
    · cases h)
noncomputable abbrev ll_slices_symMergeCmpFunc_Count_75_9 {R : Type} : List (Nat × Nat × Nat × Smy R) := (75, 1, 9, gL sp_slices_symMergeCmpFunc_Count_75_9 rd_slices_symMergeCmpFunc_Count_75_9 br) :: ll_slices_symMergeCmpFunc_Count_75_3
theorem lk_slices_symMergeCmpFunc_Count_75_9 {R : Type} (mr : List U → Rt) : ∀ e ∈ ll_slices_symMergeCmpFunc_Count_75_9 (R := R), LoopTells Try.prog (extT [(75, gF S_slices_symMergeCmpFunc_Count mr)] X8) M_slices_symMergeCmpFunc_Count L_slices_symMergeCmpFunc_Count e.2.1 (L_slices_symMergeCmpFunc_Count e.1) (bodyOf Try.prog e.1 e.2.2.1) e.2.2.2 := List.forall_mem_cons.2 ⟨lo_slices_symMergeCmpFunc_Count_75_9 mr, (lk_slices_symMergeCmpFunc_Count_75_3 mr)⟩
noncomputable def rd_slices_symMergeCmpFunc_Count_75_15 : List U → Rt
  | [.i v0, .i v1, .i v2, .l v3] =>
    (.test (decide (v1 < v2))
    (.test (inR v0 (ln v3))
    (.test (decide (Int.toNat v0 < List.length v3))
    (.test (inR (w64 (Int.fdiv (IntKind.wrap IntKind.u64 (w64 (v1 + v2))) (2 : Int))) (ln v3))
    (.test (decide (Int.toNat (w64 (Int.fdiv (IntKind.wrap IntKind.u64 (w64 (v1 + v2))) (2 : Int))) < List.length v3))
    (let r0 : Rs := (Rt.res (m_row_Compare [U.l (cL (el v3 v0) 0), U.l (cL (el v3 (w64 (Int.fdiv (IntKind.wrap IntKind.u64 (w64 (v1 + v2))) (2 : Int)))) 0)]))
    (.test (ok r0 0)
    (.test (!decide (uI (out r0 0) 0 < (0 : Int)))
    (.next [.i v0, .i (w64 (w64 (Int.fdiv (IntKind.wrap IntKind.u64 (w64 (v1 + v2))) (2 : Int)) + (1 : Int))), .i v2, .l v3])
    (.next [.i v0, .i v1, .i (w64 (Int.fdiv (IntKind.wrap IntKind.u64 (w64 (v1 + v2))) (2 : Int))), .l v3]))
    .fail))
    .fail)
    .fail)
    .fail)
    .fail)
    (.stop 0 [.i v0, .i v1, .l v3]))
  | _ => .fail
def sp_slices_symMergeCmpFunc_Count_75_15 : LSp := ⟨220, ⟨[(0, .one (.all 0)), (2, .one (.i .i64)), (4, .fn 66 []), (14, .one (.i .i64)), (15, .one (.i .i64))], [.arr 54 true]⟩, [(.exit 4, ⟨[(0, .one (.all 0)), (2, .one (.i .i64)), (14, .one (.i .i64))], [.arr 54 true]⟩)]⟩
set_option maxRecDepth 100000 in
theorem rq_slices_symMergeCmpFunc_Count_75_15 (mr : List U → Rt) (v0 : Int) (v1 : Int) (v2 : Int) (v3 : List (List PV)) : runK br Try.prog (callK br Try.prog (extT [(75, gF S_slices_symMergeCmpFunc_Count mr)] X8) M_slices_symMergeCmpFunc_Count L_slices_symMergeCmpFunc_Count (lsT ll_slices_symMergeCmpFunc_Count_75_9) 40) M_slices_symMergeCmpFunc_Count (lsT ll_slices_symMergeCmpFunc_Count_75_9 75 1) 40 1 (L_slices_symMergeCmpFunc_Count 75) (bodyOf Try.prog 75 15) (sp_slices_symMergeCmpFunc_Count_75_15.s.ts sp_slices_symMergeCmpFunc_Count_75_15.n [.i v0, .i v1, .i v2, .l v3]) (sp_slices_symMergeCmpFunc_Count_75_15.s.h [.i v0, .i v1, .i v2, .l v3]) (idc Try.prog 1 (L_slices_symMergeCmpFunc_Count 75) 15) =
    (rd_slices_symMergeCmpFunc_Count_75_15 [.i v0, .i v1, .i v2, .l v3]).go br (fun us' => some (.normal, sp_slices_symMergeCmpFunc_Count_75_15.s.ts sp_slices_symMergeCmpFunc_Count_75_15.n us', sp_slices_symMergeCmpFunc_Count_75_15.s.h us')) sp_slices_symMergeCmpFunc_Count_75_15.fin := by
  rw [← callF_eq, ← runF_eq]; kernel_rfl
theorem lo_slices_symMergeCmpFunc_Count_75_15 {R : Type} (mr : List U → Rt) : LoopTells Try.prog (extT [(75, gF S_slices_symMergeCmpFunc_Count mr)] X8) M_slices_symMergeCmpFunc_Count L_slices_symMergeCmpFunc_Count 1 (L_slices_symMergeCmpFunc_Count 75) (bodyOf Try.prog 75 15) (gL (R := R) sp_slices_symMergeCmpFunc_Count_75_15 rd_slices_symMergeCmpFunc_Count_75_15 br) :=
  loopTold (callK_ev (loopsOK_list rids (lk_slices_symMergeCmpFunc_Count_75_9 mr)) 40) (lsokIn (loopsOK_list rids (lk_slices_symMergeCmpFunc_Count_75_9 mr)) 75 1 15) (by kernel_rfl) sp_slices_symMergeCmpFunc_Count_75_15 rd_slices_symMergeCmpFunc_Count_75_15 rfl (by kernel_rfl) (by
    intro us v h; unfold rd_slices_symMergeCmpFunc_Count_75_15 at h; split at h
    · rename_i v0 v1 v2 v3; exact rq_slices_symMergeCmpFunc_Count_75_15 mr v0 v1 v2 v3
    · cases h)
noncomputable abbrev ll_slices_symMergeCmpFunc_Count_75_15 {R : Type} : List (Nat × Nat × Nat × Smy R) := (75, 1, 15, gL sp_slices_symMergeCmpFunc_Count_75_15 rd_slices_symMergeCmpFunc_Count_75_15 br) :: ll_slices_symMergeCmpFunc_Count_75_9
theorem lk_slices_symMergeCmpFunc_Count_75_15 {R : Type} (mr : List U → Rt) : ∀ e ∈ ll_slices_symMergeCmpFunc_Count_75_15 (R := R), LoopTells Try.prog (extT [(75, gF S_slices_symMergeCmpFunc_Count mr)] X8) M_slices_symMergeCmpFunc_Count L_slices_symMergeCmpFunc_Count e.2.1 (L_slices_symMergeCmpFunc_Count e.1) (bodyOf Try.prog e.1 e.2.2.1) e.2.2.2 := List.forall_mem_cons.2 ⟨lo_slices_symMergeCmpFunc_Count_75_15 mr, (lk_slices_symMergeCmpFunc_Count_75_9 mr)⟩
noncomputable def rd_slices_symMergeCmpFunc_Count_75_21 : List U → Rt
  | [.i v0, .i v1, .l v2] =>
    (.test (decide (v1 > v0))
    (.test (inR (w64 (v1 - (1 : Int))) (ln v2))
    (.test (decide (Int.toNat (w64 (v1 - (1 : Int))) < List.length v2))
    (.test (inR v1 (ln v2))
    (.test (decide (Int.toNat v1 < List.length v2))
    (.test (inR v1 (ln v2))
    (.test (decide (Int.toNat v1 < List.length v2))
    (.test (inR (w64 (v1 - (1 : Int))) (ln (List.set v2 (Int.toNat v1) (setCells (el v2 v1) 0 [PV.lst 28 (cL (el v2 (w64 (v1 - (1 : Int)))) 0), pI (cI (el v2 (w64 (v1 - (1 : Int)))) 1)]))))
    (.test (decide (Int.toNat (w64 (v1 - (1 : Int))) < List.length (List.set v2 (Int.toNat v1) (setCells (el v2 v1) 0 [PV.lst 28 (cL (el v2 (w64 (v1 - (1 : Int)))) 0), pI (cI (el v2 (w64 (v1 - (1 : Int)))) 1)]))))
    (.next [.i v0, .i (w64 (v1 - (1 : Int))), .l (List.set (List.set v2 (Int.toNat v1) (setCells (el v2 v1) 0 [PV.lst 28 (cL (el v2 (w64 (v1 - (1 : Int)))) 0), pI (cI (el v2 (w64 (v1 - (1 : Int)))) 1)])) (Int.toNat (w64 (v1 - (1 : Int)))) (setCells (el (List.set v2 (Int.toNat v1) (setCells (el v2 v1) 0 [PV.lst 28 (cL (el v2 (w64 (v1 - (1 : Int)))) 0), pI (cI (el v2 (w64 (v1 - (1 : Int)))) 1)])) (w64 (v1 - (1 : Int)))) 0 [PV.lst 28 (cL (el v2 v1) 0), pI (cI (el v2 v1) 1)]))])
    .fail)
    .fail)
    .fail)
    .fail)
    .fail)
    .fail)
    .fail)
    .fail)
    (.stop 0 [.l v2]))
  | _ => .fail
def sp_slices_symMergeCmpFunc_Count_75_21 : LSp := ⟨220, ⟨[(0, .one (.all 0)), (14, .one (.i .i64)), (17, .one (.i .i64))], [.arr 54 true]⟩, [(.exit 6, ⟨[], [.arr 54 true]⟩)]⟩
set_option maxRecDepth 100000 in
theorem rq_slices_symMergeCmpFunc_Count_75_21 (mr : List U → Rt) (v0 : Int) (v1 : Int) (v2 : List (List PV)) : runK br Try.prog (callK br Try.prog (extT [(75, gF S_slices_symMergeCmpFunc_Count mr)] X8) M_slices_symMergeCmpFunc_Count L_slices_symMergeCmpFunc_Count (lsT ll_slices_symMergeCmpFunc_Count_75_15) 40) M_slices_symMergeCmpFunc_Count (lsT ll_slices_symMergeCmpFunc_Count_75_15 75 1) 40 1 (L_slices_symMergeCmpFunc_Count 75) (bodyOf Try.prog 75 21) (sp_slices_symMergeCmpFunc_Count_75_21.s.ts sp_slices_symMergeCmpFunc_Count_75_21.n [.i v0, .i v1, .l v2]) (sp_slices_symMergeCmpFunc_Count_75_21.s.h [.i v0, .i v1, .l v2]) (idc Try.prog 1 (L_slices_symMergeCmpFunc_Count 75) 21) =
    (rd_slices_symMergeCmpFunc_Count_75_21 [.i v0, .i v1, .l v2]).go br (fun us' => some (.normal, sp_slices_symMergeCmpFunc_Count_75_21.s.ts sp_slices_symMergeCmpFunc_Count_75_21.n us', sp_slices_symMergeCmpFunc_Count_75_21.s.h us')) sp_slices_symMergeCmpFunc_Count_75_21.fin := by
  rw [← callF_eq, ← runF_eq]; kernel_rfl
theorem lo_slices_symMergeCmpFunc_Count_75_21 {R : Type} (mr : List U → Rt) : LoopTells Try.prog (extT [(75, gF S_slices_symMergeCmpFunc_Count mr)] X8) M_slices_symMergeCmpFunc_Count L_slices_symMergeCmpFunc_Count 1 (L_slices_symMergeCmpFunc_Count 75) (bodyOf Try.prog 75 21) (gL (R := R) sp_slices_symMergeCmpFunc_Count_75_21 rd_slices_symMergeCmpFunc_Count_75_21 br) :=
  loopTold (callK_ev (loopsOK_list rids (lk_slices_symMergeCmpFunc_Count_75_15 mr)) 40) (lsokIn (loopsOK_list rids (lk_slices_symMergeCmpFunc_Count_75_15 mr)) 75 1 21) (by kernel_rfl) sp_slices_symMergeCmpFunc_Count_75_21 rd_slices_symMergeCmpFunc_Count_75_21 rfl (by kernel_rfl) (by
    intro us v h; unfold rd_slices_symMergeCmpFunc_Count_75_21 at h; split at h
    · rename_i v0 v1 v2; exact rq_slices_symMergeCmpFunc_Count_75_21 mr v0 v1 v2
    · cases h)
noncomputable abbrev ll_slices_symMergeCmpFunc_Count_75_21 {R : Type} : List (Nat × Nat × Nat × Smy R) := (75, 1, 21, gL sp_slices_symMergeCmpFunc_Count_75_21 rd_slices_symMergeCmpFunc_Count_75_21 br) :: ll_slices_symMergeCmpFunc_Count_75_15
theorem lk_slices_symMergeCmpFunc_Count_75_21 {R : Type} (mr : List U → Rt) : ∀ e ∈ ll_slices_symMergeCmpFunc_Count_75_21 (R := R), LoopTells Try.prog (extT [(75, gF S_slices_symMergeCmpFunc_Count mr)] X8) M_slices_symMergeCmpFunc_Count L_slices_symMergeCmpFunc_Count e.2.1 (L_slices_symMergeCmpFunc_Count e.1) (bodyOf Try.prog e.1 e.2.2.1) e.2.2.2 := List.forall_mem_cons.2 ⟨lo_slices_symMergeCmpFunc_Count_75_21 mr, (lk_slices_symMergeCmpFunc_Count_75_15 mr)⟩
noncomputable def rd_slices_symMergeCmpFunc_Count_75_33 : List U → Rt
  | [.i v0, .i v1, .i v2, .i v3, .i v4, .i v5, .i v6, .i v7, .l v8] =>
    (.test (decide (v5 < v6))
    (.test (inR (w64 (v7 - w64 (Int.fdiv (IntKind.wrap IntKind.u64 (w64 (v5 + v6))) (2 : Int)))) (ln v8))
    (.test (decide (Int.toNat (w64 (v7 - w64 (Int.fdiv (IntKind.wrap IntKind.u64 (w64 (v5 + v6))) (2 : Int)))) < List.length v8))
    (.test (inR (w64 (Int.fdiv (IntKind.wrap IntKind.u64 (w64 (v5 + v6))) (2 : Int))) (ln v8))
    (.test (decide (Int.toNat (w64 (Int.fdiv (IntKind.wrap IntKind.u64 (w64 (v5 + v6))) (2 : Int))) < List.length v8))
    (let r0 : Rs := (Rt.res (m_row_Compare [U.l (cL (el v8 (w64 (v7 - w64 (Int.fdiv (IntKind.wrap IntKind.u64 (w64 (v5 + v6))) (2 : Int))))) 0), U.l (cL (el v8 (w64 (Int.fdiv (IntKind.wrap IntKind.u64 (w64 (v5 + v6))) (2 : Int)))) 0)]))
    (.test (ok r0 0)
    (.test (!decide (uI (out r0 0) 0 < (0 : Int)))
    (.next [.i v0, .i v1, .i v2, .i v3, .i v4, .i (w64 (w64 (Int.fdiv (IntKind.wrap IntKind.u64 (w64 (v5 + v6))) (2 : Int)) + (1 : Int))), .i v6, .i v7, .l v8])
    (.next [.i v0, .i v1, .i v2, .i v3, .i v4, .i v5, .i (w64 (Int.fdiv (IntKind.wrap IntKind.u64 (w64 (v5 + v6))) (2 : Int))), .i v7, .l v8]))
    .fail))
    .fail)
    .fail)
    .fail)
    .fail)
    (.stop 0 [.i v0, .i v1, .i v2, .i v3, .i v4, .i v5, .l v8]))
  | _ => .fail
def sp_slices_symMergeCmpFunc_Count_75_33 : LSp := ⟨220, ⟨[(0, .one (.all 0)), (1, .one (.i .i64)), (2, .one (.i .i64)), (3, .one (.i .i64)), (4, .fn 66 []), (18, .one (.i .i64)), (19, .one (.i .i64)), (20, .one (.i .i64)), (21, .one (.i .i64)), (22, .one (.i .i64))], [.arr 54 true]⟩, [(.exit 8, ⟨[(0, .one (.all 0)), (1, .one (.i .i64)), (2, .one (.i .i64)), (3, .one (.i .i64)), (4, .fn 66 []), (18, .one (.i .i64)), (19, .one (.i .i64)), (20, .one (.i .i64))], [.arr 54 true]⟩)]⟩
set_option maxRecDepth 100000 in
theorem rq_slices_symMergeCmpFunc_Count_75_33 (mr : List U → Rt) (v0 : Int) (v1 : Int) (v2 : Int) (v3 : Int) (v4 : Int) (v5 : Int) (v6 : Int) (v7 : Int) (v8 : List (List PV)) : runK br Try.prog (callK br Try.prog (extT [(75, gF S_slices_symMergeCmpFunc_Count mr)] X8) M_slices_symMergeCmpFunc_Count L_slices_symMergeCmpFunc_Count (lsT ll_slices_symMergeCmpFunc_Count_75_21) 40) M_slices_symMergeCmpFunc_Count (lsT ll_slices_symMergeCmpFunc_Count_75_21 75 1) 40 1 (L_slices_symMergeCmpFunc_Count 75) (bodyOf Try.prog 75 33) (sp_slices_symMergeCmpFunc_Count_75_33.s.ts sp_slices_symMergeCmpFunc_Count_75_33.n [.i v0, .i v1, .i v2, .i v3, .i v4, .i v5, .i v6, .i v7, .l v8]) (sp_slices_symMergeCmpFunc_Count_75_33.s.h [.i v0, .i v1, .i v2, .i v3, .i v4, .i v5, .i v6, .i v7, .l v8]) (idc Try.prog 1 (L_slices_symMergeCmpFunc_Count 75) 33) =
    (rd_slices_symMergeCmpFunc_Count_75_33 [.i v0, .i v1, .i v2, .i v3, .i v4, .i v5, .i v6, .i v7, .l v8]).go br (fun us' => some (.normal, sp_slices_symMergeCmpFunc_Count_75_33.s.ts sp_slices_symMergeCmpFunc_Count_75_33.n us', sp_slices_symMergeCmpFunc_Count_75_33.s.h us')) sp_slices_symMergeCmpFunc_Count_75_33.fin := by
  rw [← callF_eq, ← runF_eq]; kernel_rfl
theorem lo_slices_symMergeCmpFunc_Count_75_33 {R : Type} (mr : List U → Rt) : LoopTells Try.prog (extT [(75, gF S_slices_symMergeCmpFunc_Count mr)] X8) M_slices_symMergeCmpFunc_Count L_slices_symMergeCmpFunc_Count 1 (L_slices_symMergeCmpFunc_Count 75) (bodyOf Try.prog 75 33) (gL (R := R) sp_slices_symMergeCmpFunc_Count_75_33 rd_slices_symMergeCmpFunc_Count_75_33 br) :=
  loopTold (callK_ev (loopsOK_list rids (lk_slices_symMergeCmpFunc_Count_75_21 mr)) 40) (lsokIn (loopsOK_list rids (lk_slices_symMergeCmpFunc_Count_75_21 mr)) 75 1 33) (by kernel_rfl) sp_slices_symMergeCmpFunc_Count_75_33 rd_slices_symMergeCmpFunc_Count_75_33 rfl (by kernel_rfl) (by
    intro us v h; unfold rd_slices_symMergeCmpFunc_Count_75_33 at h; split at h
    · rename_i v0 v1 v2 v3 v4 v5 v6 v7 v8; exact rq_slices_symMergeCmpFunc_Count_75_33 mr v0 v1 v2 v3 v4 v5 v6 v7 v8
    · cases h)
noncomputable abbrev ll_slices_symMergeCmpFunc_Count_75_33 {R : Type} : List (Nat × Nat × Nat × Smy R) := (75, 1, 33, gL sp_slices_symMergeCmpFunc_Count_75_33 rd_slices_symMergeCmpFunc_Count_75_33 br) :: ll_slices_symMergeCmpFunc_Count_75_21
theorem lk_slices_symMergeCmpFunc_Count_75_33 {R : Type} (mr : List U → Rt) : ∀ e ∈ ll_slices_symMergeCmpFunc_Count_75_33 (R := R), LoopTells Try.prog (extT [(75, gF S_slices_symMergeCmpFunc_Count mr)] X8) M_slices_symMergeCmpFunc_Count L_slices_symMergeCmpFunc_Count e.2.1 (L_slices_symMergeCmpFunc_Count e.1) (bodyOf Try.prog e.1 e.2.2.1) e.2.2.2 := List.forall_mem_cons.2 ⟨lo_slices_symMergeCmpFunc_Count_75_33 mr, (lk_slices_symMergeCmpFunc_Count_75_21 mr)⟩
noncomputable def s_slices_symMergeCmpFunc_Count (mr : List U → Rt) : List U → Rt
  | [.i v0, .i v1, .i v2, .l v3] =>
    (.test (w64 (v1 - v0) == (1 : Int))
    (let r0 : Rs := (lres rd_slices_symMergeCmpFunc_Count_75_3 [U.i v0, U.i v1, U.i v2, U.l v3])
    (.test (ok r0 0)
    (let r1 : Rs := (lres rd_slices_symMergeCmpFunc_Count_75_9 [U.i (uI (out r0 0) 1), U.i (uI (out r0 0) 0), U.l (uL (out r0 0) 2)])
    (.test (ok r1 0)
    (.stop 0 [.l (uL (out r1 0) 0)])
    .fail))
    .fail))
    (.test (w64 (v2 - v1) == (1 : Int))
    (let r2 : Rs := (lres rd_slices_symMergeCmpFunc_Count_75_15 [U.i v1, U.i v0, U.i v1, U.l v3])
    (.test (ok r2 0)
    (let r3 : Rs := (lres rd_slices_symMergeCmpFunc_Count_75_21 [U.i (uI (out r2 0) 1), U.i (uI (out r2 0) 0), U.l (uL (out r2 0) 2)])
    (.test (ok r3 0)
    (.stop 0 [.l (uL (out r3 0) 0)])
    .fail))
    .fail))
    (.test (decide (v1 > w64 (Int.fdiv (IntKind.wrap IntKind.u64 (w64 (v0 + v2))) (2 : Int))))
    (let r4 : Rs := (lres rd_slices_symMergeCmpFunc_Count_75_33 [U.i v0, U.i v1, U.i v2, U.i (w64 (Int.fdiv (IntKind.wrap IntKind.u64 (w64 (v0 + v2))) (2 : Int))), U.i (w64 (w64 (Int.fdiv (IntKind.wrap IntKind.u64 (w64 (v0 + v2))) (2 : Int)) + v1)), U.i (w64 (w64 (w64 (Int.fdiv (IntKind.wrap IntKind.u64 (w64 (v0 + v2))) (2 : Int)) + v1) - v2)), U.i (w64 (Int.fdiv (IntKind.wrap IntKind.u64 (w64 (v0 + v2))) (2 : Int))), U.i (w64 (w64 (w64 (Int.fdiv (IntKind.wrap IntKind.u64 (w64 (v0 + v2))) (2 : Int)) + v1) - (1 : Int))), U.l v3])
    (.test (ok r4 0)
    (.test (decide (uI (out r4 0) 5 < uI (out r4 0) 1))
    (.test (decide (uI (out r4 0) 1 < w64 (uI (out r4 0) 4 - uI (out r4 0) 5)))
    (let r5 : Rs := (Rt.res (m_slices_rotateCmpFunc_Count [U.i (uI (out r4 0) 5), U.i (uI (out r4 0) 1), U.i (w64 (uI (out r4 0) 4 - uI (out r4 0) 5)), U.l (uL (out r4 0) 6)]))
    (.test (ok r5 0)
    (.test (decide (uI (out r4 0) 0 < uI (out r4 0) 5))
    (.test (decide (uI (out r4 0) 5 < uI (out r4 0) 3))
    (let r6 : Rs := (Rt.res (mr [U.i (uI (out r4 0) 0), U.i (uI (out r4 0) 5), U.i (uI (out r4 0) 3), U.l (uL (out r5 0) 0)]))
    (.test (ok r6 0)
    (.test (decide (uI (out r4 0) 3 < w64 (uI (out r4 0) 4 - uI (out r4 0) 5)))
    (.test (decide (w64 (uI (out r4 0) 4 - uI (out r4 0) 5) < uI (out r4 0) 2))
    (let r7 : Rs := (Rt.res (mr [U.i (uI (out r4 0) 3), U.i (w64 (uI (out r4 0) 4 - uI (out r4 0) 5)), U.i (uI (out r4 0) 2), U.l (uL (out r6 0) 0)]))
    (.test (ok r7 0)
    (.stop 0 [.l (uL (out r7 0) 0)])
    .fail))
    (.stop 0 [.l (uL (out r6 0) 0)]))
    (.stop 0 [.l (uL (out r6 0) 0)]))
    .fail))
    (.test (decide (uI (out r4 0) 3 < w64 (uI (out r4 0) 4 - uI (out r4 0) 5)))
    (.test (decide (w64 (uI (out r4 0) 4 - uI (out r4 0) 5) < uI (out r4 0) 2))
    (let r8 : Rs := (Rt.res (mr [U.i (uI (out r4 0) 3), U.i (w64 (uI (out r4 0) 4 - uI (out r4 0) 5)), U.i (uI (out r4 0) 2), U.l (uL (out r5 0) 0)]))
    (.test (ok r8 0)
    (.stop 0 [.l (uL (out r8 0) 0)])
    .fail))
    (.stop 0 [.l (uL (out r5 0) 0)]))
    (.stop 0 [.l (uL (out r5 0) 0)])))
    (.test (decide (uI (out r4 0) 3 < w64 (uI (out r4 0) 4 - uI (out r4 0) 5)))
    (.test (decide (w64 (uI (out r4 0) 4 - uI (out r4 0) 5) < uI (out r4 0) 2))
    (let r9 : Rs := (Rt.res (mr [U.i (uI (out r4 0) 3), U.i (w64 (uI (out r4 0) 4 - uI (out r4 0) 5)), U.i (uI (out r4 0) 2), U.l (uL (out r5 0) 0)]))
    (.test (ok r9 0)
    (.stop 0 [.l (uL (out r9 0) 0)])
    .fail))
    (.stop 0 [.l (uL (out r5 0) 0)]))
    (.stop 0 [.l (uL (out r5 0) 0)])))
    .fail))
    (.test (decide (uI (out r4 0) 0 < uI (out r4 0) 5))
    (.test (decide (uI (out r4 0) 5 < uI (out r4 0) 3))
    (let r10 : Rs := (Rt.res (mr [U.i (uI (out r4 0) 0), U.i (uI (out r4 0) 5), U.i (uI (out r4 0) 3), U.l (uL (out r4 0) 6)]))
    (.test (ok r10 0)
    (.test (decide (uI (out r4 0) 3 < w64 (uI (out r4 0) 4 - uI (out r4 0) 5)))
    (.test (decide (w64 (uI (out r4 0) 4 - uI (out r4 0) 5) < uI (out r4 0) 2))
    (let r11 : Rs := (Rt.res (mr [U.i (uI (out r4 0) 3), U.i (w64 (uI (out r4 0) 4 - uI (out r4 0) 5)), U.i (uI (out r4 0) 2), U.l (uL (out r10 0) 0)]))
    (.test (ok r11 0)
    (.stop 0 [.l (uL (out r11 0) 0)])
    .fail))
    (.stop 0 [.l (uL (out r10 0) 0)]))
    (.stop 0 [.l (uL (out r10 0) 0)]))
    .fail))
    (.test (decide (uI (out r4 0) 3 < w64 (uI (out r4 0) 4 - uI (out r4 0) 5)))
    (.test (decide (w64 (uI (out r4 0) 4 - uI (out r4 0) 5) < uI (out r4 0) 2))
    (let r12 : Rs := (Rt.res (mr [U.i (uI (out r4 0) 3), U.i (w64 (uI (out r4 0) 4 - uI (out r4 0) 5)), U.i (uI (out r4 0) 2), U.l (uL (out r4 0) 6)]))
    (.test (ok r12 0)
    (.stop 0 [.l (uL (out r12 0) 0)])
    .fail))
    (.stop 0 [.l (uL (out r4 0) 6)]))
    (.stop 0 [.l (uL (out r4 0) 6)])))
    (.test (decide (uI (out r4 0) 3 < w64 (uI (out r4 0) 4 - uI (out r4 0) 5)))
    (.test (decide (w64 (uI (out r4 0) 4 - uI (out r4 0) 5) < uI (out r4 0) 2))
    (let r13 : Rs := (Rt.res (mr [U.i (uI (out r4 0) 3), U.i (w64 (uI (out r4 0) 4 - uI (out r4 0) 5)), U.i (uI (out r4 0) 2), U.l (uL (out r4 0) 6)]))
    (.test (ok r13 0)
    (.stop 0 [.l (uL (out r13 0) 0)])
    .fail))
    (.stop 0 [.l (uL (out r4 0) 6)]))
    (.stop 0 [.l (uL (out r4 0) 6)]))))
    (.test (decide (uI (out r4 0) 0 < uI (out r4 0) 5))
    (.test (decide (uI (out r4 0) 5 < uI (out r4 0) 3))
    (let r14 : Rs := (Rt.res (mr [U.i (uI (out r4 0) 0), U.i (uI (out r4 0) 5), U.i (uI (out r4 0) 3), U.l (uL (out r4 0) 6)]))
    (.test (ok r14 0)
    (.test (decide (uI (out r4 0) 3 < w64 (uI (out r4 0) 4 - uI (out r4 0) 5)))
    (.test (decide (w64 (uI (out r4 0) 4 - uI (out r4 0) 5) < uI (out r4 0) 2))
    (let r15 : Rs := (Rt.res (mr [U.i (uI (out r4 0) 3), U.i (w64 (uI (out r4 0) 4 - uI (out r4 0) 5)), U.i (uI (out r4 0) 2), U.l (uL (out r14 0) 0)]))
    (.test (ok r15 0)
    (.stop 0 [.l (uL (out r15 0) 0)])
    .fail))
    (.stop 0 [.l (uL (out r14 0) 0)]))
    (.stop 0 [.l (uL (out r14 0) 0)]))
    .fail))
    (.test (decide (uI (out r4 0) 3 < w64 (uI (out r4 0) 4 - uI (out r4 0) 5)))
    (.test (decide (w64 (uI (out r4 0) 4 - uI (out r4 0) 5) < uI (out r4 0) 2))
    (let r16 : Rs := (Rt.res (mr [U.i (uI (out r4 0) 3), U.i (w64 (uI (out r4 0) 4 - uI (out r4 0) 5)), U.i (uI (out r4 0) 2), U.l (uL (out r4 0) 6)]))
    (.test (ok r16 0)
    (.stop 0 [.l (uL (out r16 0) 0)])
    .fail))
    (.stop 0 [.l (uL (out r4 0) 6)]))
    (.stop 0 [.l (uL (out r4 0) 6)])))
    (.test (decide (uI (out r4 0) 3 < w64 (uI (out r4 0) 4 - uI (out r4 0) 5)))
    (.test (decide (w64 (uI (out r4 0) 4 - uI (out r4 0) 5) < uI (out r4 0) 2))
    (let r17 : Rs := (Rt.res (mr [U.i (uI (out r4 0) 3), U.i (w64 (uI (out r4 0) 4 - uI (out r4 0) 5)), U.i (uI (out r4 0) 2), U.l (uL (out r4 0) 6)]))
    (.test (ok r17 0)
    (.stop 0 [.l (uL (out r17 0) 0)])
    .fail))
    (.stop 0 [.l (uL (out r4 0) 6)]))
    (.stop 0 [.l (uL (out r4 0) 6)]))))
    .fail))
    (let r18 : Rs := (lres rd_slices_symMergeCmpFunc_Count_75_33 [U.i v0, U.i v1, U.i v2, U.i (w64 (Int.fdiv (IntKind.wrap IntKind.u64 (w64 (v0 + v2))) (2 : Int))), U.i (w64 (w64 (Int.fdiv (IntKind.wrap IntKind.u64 (w64 (v0 + v2))) (2 : Int)) + v1)), U.i v0, U.i v1, U.i (w64 (w64 (w64 (Int.fdiv (IntKind.wrap IntKind.u64 (w64 (v0 + v2))) (2 : Int)) + v1) - (1 : Int))), U.l v3])
    (.test (ok r18 0)
    (.test (decide (uI (out r18 0) 5 < uI (out r18 0) 1))
    (.test (decide (uI (out r18 0) 1 < w64 (uI (out r18 0) 4 - uI (out r18 0) 5)))
    (let r19 : Rs := (Rt.res (m_slices_rotateCmpFunc_Count [U.i (uI (out r18 0) 5), U.i (uI (out r18 0) 1), U.i (w64 (uI (out r18 0) 4 - uI (out r18 0) 5)), U.l (uL (out r18 0) 6)]))
    (.test (ok r19 0)
    (.test (decide (uI (out r18 0) 0 < uI (out r18 0) 5))
    (.test (decide (uI (out r18 0) 5 < uI (out r18 0) 3))
    (let r20 : Rs := (Rt.res (mr [U.i (uI (out r18 0) 0), U.i (uI (out r18 0) 5), U.i (uI (out r18 0) 3), U.l (uL (out r19 0) 0)]))
    (.test (ok r20 0)
    (.test (decide (uI (out r18 0) 3 < w64 (uI (out r18 0) 4 - uI (out r18 0) 5)))
    (.test (decide (w64 (uI (out r18 0) 4 - uI (out r18 0) 5) < uI (out r18 0) 2))
    (let r21 : Rs := (Rt.res (mr [U.i (uI (out r18 0) 3), U.i (w64 (uI (out r18 0) 4 - uI (out r18 0) 5)), U.i (uI (out r18 0) 2), U.l (uL (out r20 0) 0)]))
    (.test (ok r21 0)
    (.stop 0 [.l (uL (out r21 0) 0)])
    .fail))
    (.stop 0 [.l (uL (out r20 0) 0)]))
    (.stop 0 [.l (uL (out r20 0) 0)]))
    .fail))
    (.test (decide (uI (out r18 0) 3 < w64 (uI (out r18 0) 4 - uI (out r18 0) 5)))
    (.test (decide (w64 (uI (out r18 0) 4 - uI (out r18 0) 5) < uI (out r18 0) 2))
    (let r22 : Rs := (Rt.res (mr [U.i (uI (out r18 0) 3), U.i (w64 (uI (out r18 0) 4 - uI (out r18 0) 5)), U.i (uI (out r18 0) 2), U.l (uL (out r19 0) 0)]))
    (.test (ok r22 0)
    (.stop 0 [.l (uL (out r22 0) 0)])
    .fail))
    (.stop 0 [.l (uL (out r19 0) 0)]))
    (.stop 0 [.l (uL (out r19 0) 0)])))
    (.test (decide (uI (out r18 0) 3 < w64 (uI (out r18 0) 4 - uI (out r18 0) 5)))
    (.test (decide (w64 (uI (out r18 0) 4 - uI (out r18 0) 5) < uI (out r18 0) 2))
    (let r23 : Rs := (Rt.res (mr [U.i (uI (out r18 0) 3), U.i (w64 (uI (out r18 0) 4 - uI (out r18 0) 5)), U.i (uI (out r18 0) 2), U.l (uL (out r19 0) 0)]))
    (.test (ok r23 0)
    (.stop 0 [.l (uL (out r23 0) 0)])
    .fail))
    (.stop 0 [.l (uL (out r19 0) 0)]))
    (.stop 0 [.l (uL (out r19 0) 0)])))
    .fail))
    (.test (decide (uI (out r18 0) 0 < uI (out r18 0) 5))
    (.test (decide (uI (out r18 0) 5 < uI (out r18 0) 3))
    (let r24 : Rs := (Rt.res (mr [U.i (uI (out r18 0) 0), U.i (uI (out r18 0) 5), U.i (uI (out r18 0) 3), U.l (uL (out r18 0) 6)]))
    (.test (ok r24 0)
    (.test (decide (uI (out r18 0) 3 < w64 (uI (out r18 0) 4 - uI (out r18 0) 5)))
    (.test (decide (w64 (uI (out r18 0) 4 - uI (out r18 0) 5) < uI (out r18 0) 2))
    (let r25 : Rs := (Rt.res (mr [U.i (uI (out r18 0) 3), U.i (w64 (uI (out r18 0) 4 - uI (out r18 0) 5)), U.i (uI (out r18 0) 2), U.l (uL (out r24 0) 0)]))
    (.test (ok r25 0)
    (.stop 0 [.l (uL (out r25 0) 0)])
    .fail))
    (.stop 0 [.l (uL (out r24 0) 0)]))
    (.stop 0 [.l (uL (out r24 0) 0)]))
    .fail))
    (.test (decide (uI (out r18 0) 3 < w64 (uI (out r18 0) 4 - uI (out r18 0) 5)))
    (.test (decide (w64 (uI (out r18 0) 4 - uI (out r18 0) 5) < uI (out r18 0) 2))
    (let r26 : Rs := (Rt.res (mr [U.i (uI (out r18 0) 3), U.i (w64 (uI (out r18 0) 4 - uI (out r18 0) 5)), U.i (uI (out r18 0) 2), U.l (uL (out r18 0) 6)]))
    (.test (ok r26 0)
    (.stop 0 [.l (uL (out r26 0) 0)])
    .fail))
    (.stop 0 [.l (uL (out r18 0) 6)]))
    (.stop 0 [.l (uL (out r18 0) 6)])))
    (.test (decide (uI (out r18 0) 3 < w64 (uI (out r18 0) 4 - uI (out r18 0) 5)))
    (.test (decide (w64 (uI (out r18 0) 4 - uI (out r18 0) 5) < uI (out r18 0) 2))
    (let r27 : Rs := (Rt.res (mr [U.i (uI (out r18 0) 3), U.i (w64 (uI (out r18 0) 4 - uI (out r18 0) 5)), U.i (uI (out r18 0) 2), U.l (uL (out r18 0) 6)]))
    (.test (ok r27 0)
    (.stop 0 [.l (uL (out r27 0) 0)])
    .fail))
    (.stop 0 [.l (uL (out r18 0) 6)]))
    (.stop 0 [.l (uL (out r18 0) 6)]))))
    (.test (decide (uI (out r18 0) 0 < uI (out r18 0) 5))
    (.test (decide (uI (out r18 0) 5 < uI (out r18 0) 3))
    (let r28 : Rs := (Rt.res (mr [U.i (uI (out r18 0) 0), U.i (uI (out r18 0) 5), U.i (uI (out r18 0) 3), U.l (uL (out r18 0) 6)]))
    (.test (ok r28 0)
    (.test (decide (uI (out r18 0) 3 < w64 (uI (out r18 0) 4 - uI (out r18 0) 5)))
    (.test (decide (w64 (uI (out r18 0) 4 - uI (out r18 0) 5) < uI (out r18 0) 2))
    (let r29 : Rs := (Rt.res (mr [U.i (uI (out r18 0) 3), U.i (w64 (uI (out r18 0) 4 - uI (out r18 0) 5)), U.i (uI (out r18 0) 2), U.l (uL (out r28 0) 0)]))
    (.test (ok r29 0)
    (.stop 0 [.l (uL (out r29 0) 0)])
    .fail))
    (.stop 0 [.l (uL (out r28 0) 0)]))
    (.stop 0 [.l (uL (out r28 0) 0)]))
    .fail))
    (.test (decide (uI (out r18 0) 3 < w64 (uI (out r18 0) 4 - uI (out r18 0) 5)))
    (.test (decide (w64 (uI (out r18 0) 4 - uI (out r18 0) 5) < uI (out r18 0) 2))
    (let r30 : Rs := (Rt.res (mr [U.i (uI (out r18 0) 3), U.i (w64 (uI (out r18 0) 4 - uI (out r18 0) 5)), U.i (uI (out r18 0) 2), U.l (uL (out r18 0) 6)]))
    (.test (ok r30 0)
    (.stop 0 [.l (uL (out r30 0) 0)])
    .fail))
    (.stop 0 [.l (uL (out r18 0) 6)]))
    (.stop 0 [.l (uL (out r18 0) 6)])))
    (.test (decide (uI (out r18 0) 3 < w64 (uI (out r18 0) 4 - uI (out r18 0) 5)))
    (.test (decide (w64 (uI (out r18 0) 4 - uI (out r18 0) 5) < uI (out r18 0) 2))
    (let r31 : Rs := (Rt.res (mr [U.i (uI (out r18 0) 3), U.i (w64 (uI (out r18 0) 4 - uI (out r18 0) 5)), U.i (uI (out r18 0) 2), U.l (uL (out r18 0) 6)]))
    (.test (ok r31 0)
    (.stop 0 [.l (uL (out r31 0) 0)])
    .fail))
    (.stop 0 [.l (uL (out r18 0) 6)]))
    (.stop 0 [.l (uL (out r18 0) 6)]))))
    .fail)))))
  | _ => .fail
noncomputable def m_slices_symMergeCmpFunc_Count : List U → Rt := recM s_slices_symMergeCmpFunc_Count 64
set_option maxRecDepth 100000 in
theorem q_slices_symMergeCmpFunc_Count (mr : List U → Rt) (v0 : Int) (v1 : Int) (v2 : Int) (v3 : List (List PV)) : callKB br Try.prog (extT [(75, gF S_slices_symMergeCmpFunc_Count mr)] X8) M_slices_symMergeCmpFunc_Count L_slices_symMergeCmpFunc_Count (lsT ll_slices_symMergeCmpFunc_Count_75_33) 60 75 (encs [.i v0, .i v1, .i v2, .l v3] 0 S_slices_symMergeCmpFunc_Count.ap) (encH [.i v0, .i v1, .i v2, .l v3] (ws S_slices_symMergeCmpFunc_Count.ap) S_slices_symMergeCmpFunc_Count.ah) (fun y => fixR Try.prog S_slices_symMergeCmpFunc_Count.plan S_slices_symMergeCmpFunc_Count.ah.length y) =
    (s_slices_symMergeCmpFunc_Count mr [.i v0, .i v1, .i v2, .l v3]).go br (fun _ => none) S_slices_symMergeCmpFunc_Count.fin := by
  rw [← callFB_eq]; kernel_rfl
set_option maxRecDepth 100000 in
theorem es_slices_symMergeCmpFunc_Count (mr : List U → Rt) (hr : EOK Try.prog 75 (gF S_slices_symMergeCmpFunc_Count mr)) : EOK Try.prog 75 (gF S_slices_symMergeCmpFunc_Count (s_slices_symMergeCmpFunc_Count mr)) :=
  eokToldB mixed named (xok1 x8 hr) (loopsOK_list rids (lk_slices_symMergeCmpFunc_Count_75_33 mr)) 60 S_slices_symMergeCmpFunc_Count (s_slices_symMergeCmpFunc_Count mr) (by
    intro us v h; unfold s_slices_symMergeCmpFunc_Count at h; split at h
    · rename_i v0 v1 v2 v3; exact q_slices_symMergeCmpFunc_Count mr v0 v1 v2 v3
    · cases h)
theorem e_slices_symMergeCmpFunc_Count : EOK Try.prog 75 (gF S_slices_symMergeCmpFunc_Count m_slices_symMergeCmpFunc_Count) := eokRec es_slices_symMergeCmpFunc_Count 64
noncomputable abbrev X9 : Ext := extT [(75, (gF S_slices_symMergeCmpFunc_Count m_slices_symMergeCmpFunc_Count))] X8
theorem x9 : XOK Try.prog X9 := xok1 x8 e_slices_symMergeCmpFunc_Count

/-- slices.stableCmpFunc[levee/api.Count] -/
def L_slices_stableCmpFunc_Count : FuncId → Nat → Option (List Nat) := liveT [(72, 2, [0, 1, 2, 6, 7, 8]), (72, 1000002, [0, 1, 2, 6, 7]), (72, 2000002, []), (72, 9, [0, 1, 2, 6, 7, 8]), (72, 1000009, [0, 1, 2, 6, 7]), (72, 2000009, []), (72, 7, [0, 1, 2, 6]), (72, 1000007, []), (72, 2000007, [])]
def M_slices_stableCmpFunc_Count : FuncId → Bool := fun f => f == 75 || f == 74
noncomputable def rd_slices_stableCmpFunc_Count_72_2 : List U → Rt
  | [.i v0, .i v1, .i v2, .i v3, .l v4] =>
    (.test (decide (v3 ≤ v0))
    (let r0 : Rs := (Rt.res (m_slices_insertionSortCmpFunc_Count [U.i v2, U.i v3, U.l v4]))
    (.test (ok r0 0)
    (.next [.i v0, .i v1, .i v3, .i (w64 (v3 + v1)), .l (uL (out r0 0) 0)])
    .fail))
    (.stop 0 [.i v0, .i v1, .i v2, .l v4]))
  | _ => .fail
def sp_slices_stableCmpFunc_Count_72_2 : LSp := ⟨63, ⟨[(0, .one (.all 0)), (1, .one (.i .i64)), (2, .fn 66 []), (6, .one (.i .i64)), (7, .one (.i .i64)), (8, .one (.i .i64))], [.arr 54 true]⟩, [(.exit 0, ⟨[(0, .one (.all 0)), (1, .one (.i .i64)), (2, .fn 66 []), (6, .one (.i .i64)), (7, .one (.i .i64))], [.arr 54 true]⟩)]⟩
set_option maxRecDepth 100000 in
theorem rq_slices_stableCmpFunc_Count_72_2 (v0 : Int) (v1 : Int) (v2 : Int) (v3 : Int) (v4 : List (List PV)) : runK br Try.prog (callK br Try.prog X9 M_slices_stableCmpFunc_Count L_slices_stableCmpFunc_Count (lsT []) 40) M_slices_stableCmpFunc_Count (lsT [] 72 1) 40 1 (L_slices_stableCmpFunc_Count 72) (bodyOf Try.prog 72 2) (sp_slices_stableCmpFunc_Count_72_2.s.ts sp_slices_stableCmpFunc_Count_72_2.n [.i v0, .i v1, .i v2, .i v3, .l v4]) (sp_slices_stableCmpFunc_Count_72_2.s.h [.i v0, .i v1, .i v2, .i v3, .l v4]) (idc Try.prog 1 (L_slices_stableCmpFunc_Count 72) 2) =
    (rd_slices_stableCmpFunc_Count_72_2 [.i v0, .i v1, .i v2, .i v3, .l v4]).go br (fun us' => some (.normal, sp_slices_stableCmpFunc_Count_72_2.s.ts sp_slices_stableCmpFunc_Count_72_2.n us', sp_slices_stableCmpFunc_Count_72_2.s.h us')) sp_slices_stableCmpFunc_Count_72_2.fin := by
  rw [← callF_eq, ← runF_eq]; kernel_rfl
theorem lo_slices_stableCmpFunc_Count_72_2 {R : Type} : LoopTells Try.prog X9 M_slices_stableCmpFunc_Count L_slices_stableCmpFunc_Count 1 (L_slices_stableCmpFunc_Count 72) (bodyOf Try.prog 72 2) (gL (R := R) sp_slices_stableCmpFunc_Count_72_2 rd_slices_stableCmpFunc_Count_72_2 br) :=
  loopTold (callK_ev (loopsOK_list rids noneIn) 40) (lsokIn (loopsOK_list rids noneIn) 72 1 2) (by kernel_rfl) sp_slices_stableCmpFunc_Count_72_2 rd_slices_stableCmpFunc_Count_72_2 rfl (by kernel_rfl) (by
    intro us v h; unfold rd_slices_stableCmpFunc_Count_72_2 at h; split at h
    · rename_i v0 v1 v2 v3 v4; exact rq_slices_stableCmpFunc_Count_72_2 v0 v1 v2 v3 v4
    · cases h)
noncomputable abbrev ll_slices_stableCmpFunc_Count_72_2 {R : Type} : List (Nat × Nat × Nat × Smy R) := (72, 1, 2, gL sp_slices_stableCmpFunc_Count_72_2 rd_slices_stableCmpFunc_Count_72_2 br) :: []
theorem lk_slices_stableCmpFunc_Count_72_2 {R : Type} : ∀ e ∈ ll_slices_stableCmpFunc_Count_72_2 (R := R), LoopTells Try.prog X9 M_slices_stableCmpFunc_Count L_slices_stableCmpFunc_Count e.2.1 (L_slices_stableCmpFunc_Count e.1) (bodyOf Try.prog e.1 e.2.2.1) e.2.2.2 := List.forall_mem_cons.2 ⟨lo_slices_stableCmpFunc_Count_72_2, noneIn⟩
noncomputable def rd_slices_stableCmpFunc_Count_72_9 : List U → Rt
  | [.i v0, .i v1, .i v2, .i v3, .l v4] =>
    (.test (decide (v3 ≤ v0))
    (let r0 : Rs := (Rt.res (m_slices_symMergeCmpFunc_Count [U.i v2, U.i (w64 (v2 + v1)), U.i v3, U.l v4]))
    (.test (ok r0 0)
    (.next [.i v0, .i v1, .i v3, .i (w64 (v3 + w64 ((2 : Int) * v1))), .l (uL (out r0 0) 0)])
    .fail))
    (.stop 0 [.i v0, .i v1, .i v2, .l v4]))
  | _ => .fail
def sp_slices_stableCmpFunc_Count_72_9 : LSp := ⟨63, ⟨[(0, .one (.all 0)), (1, .one (.i .i64)), (2, .fn 66 []), (6, .one (.i .i64)), (7, .one (.i .i64)), (8, .one (.i .i64))], [.arr 54 true]⟩, [(.exit 4, ⟨[(0, .one (.all 0)), (1, .one (.i .i64)), (2, .fn 66 []), (6, .one (.i .i64)), (7, .one (.i .i64))], [.arr 54 true]⟩)]⟩
set_option maxRecDepth 100000 in
theorem rq_slices_stableCmpFunc_Count_72_9 (v0 : Int) (v1 : Int) (v2 : Int) (v3 : Int) (v4 : List (List PV)) : runK br Try.prog (callK br Try.prog X9 M_slices_stableCmpFunc_Count L_slices_stableCmpFunc_Count (lsT ll_slices_stableCmpFunc_Count_72_2) 40) M_slices_stableCmpFunc_Count (lsT ll_slices_stableCmpFunc_Count_72_2 72 1) 40 1 (L_slices_stableCmpFunc_Count 72) (bodyOf Try.prog 72 9) (sp_slices_stableCmpFunc_Count_72_9.s.ts sp_slices_stableCmpFunc_Count_72_9.n [.i v0, .i v1, .i v2, .i v3, .l v4]) (sp_slices_stableCmpFunc_Count_72_9.s.h [.i v0, .i v1, .i v2, .i v3, .l v4]) (idc Try.prog 1 (L_slices_stableCmpFunc_Count 72) 9) =
    (rd_slices_stableCmpFunc_Count_72_9 [.i v0, .i v1, .i v2, .i v3, .l v4]).go br (fun us' => some (.normal, sp_slices_stableCmpFunc_Count_72_9.s.ts sp_slices_stableCmpFunc_Count_72_9.n us', sp_slices_stableCmpFunc_Count_72_9.s.h us')) sp_slices_stableCmpFunc_Count_72_9.fin := by
  rw [← callF_eq, ← runF_eq]; kernel_rfl
theorem lo_slices_stableCmpFunc_Count_72_9 {R : Type} : LoopTells Try.prog X9 M_slices_stableCmpFunc_Count L_slices_stableCmpFunc_Count 1 (L_slices_stableCmpFunc_Count 72) (bodyOf Try.prog 72 9) (gL (R := R) sp_slices_stableCmpFunc_Count_72_9 rd_slices_stableCmpFunc_Count_72_9 br) :=
  loopTold (callK_ev (loopsOK_list rids lk_slices_stableCmpFunc_Count_72_2) 40) (lsokIn (loopsOK_list rids lk_slices_stableCmpFunc_Count_72_2) 72 1 9) (by kernel_rfl) sp_slices_stableCmpFunc_Count_72_9 rd_slices_stableCmpFunc_Count_72_9 rfl (by kernel_rfl) (by
    intro us v h; unfold rd_slices_stableCmpFunc_Count_72_9 at h; split at h
    · rename_i v0 v1 v2 v3 v4; exact rq_slices_stableCmpFunc_Count_72_9 v0 v1 v2 v3 v4
    · cases h)
noncomputable abbrev ll_slices_stableCmpFunc_Count_72_9 {R : Type} : List (Nat × Nat × Nat × Smy R) := (72, 1, 9, gL sp_slices_stableCmpFunc_Count_72_9 rd_slices_stableCmpFunc_Count_72_9 br) :: ll_slices_stableCmpFunc_Count_72_2
theorem lk_slices_stableCmpFunc_Count_72_9 {R : Type} : ∀ e ∈ ll_slices_stableCmpFunc_Count_72_9 (R := R), LoopTells Try.prog X9 M_slices_stableCmpFunc_Count L_slices_stableCmpFunc_Count e.2.1 (L_slices_stableCmpFunc_Count e.1) (bodyOf Try.prog e.1 e.2.2.1) e.2.2.2 := List.forall_mem_cons.2 ⟨lo_slices_stableCmpFunc_Count_72_9, lk_slices_stableCmpFunc_Count_72_2⟩
noncomputable def rd_slices_stableCmpFunc_Count_72_7 : List U → Rt
  | [.i v0, .i v1, .l v2] =>
    (.test (decide (v1 < v0))
    (let r0 : Rs := (lres rd_slices_stableCmpFunc_Count_72_9 [U.i v0, U.i v1, U.i (0 : Int), U.i (w64 ((2 : Int) * v1)), U.l v2])
    (.test (ok r0 0)
    (.test (decide (w64 (uI (out r0 0) 2 + uI (out r0 0) 1) < uI (out r0 0) 0))
    (let r1 : Rs := (Rt.res (m_slices_symMergeCmpFunc_Count [U.i (uI (out r0 0) 2), U.i (w64 (uI (out r0 0) 2 + uI (out r0 0) 1)), U.i (uI (out r0 0) 0), U.l (uL (out r0 0) 3)]))
    (.test (ok r1 0)
    (.next [.i (uI (out r0 0) 0), .i (w64 (uI (out r0 0) 1 * (2 : Int))), .l (uL (out r1 0) 0)])
    .fail))
    (.next [.i (uI (out r0 0) 0), .i (w64 (uI (out r0 0) 1 * (2 : Int))), .l (uL (out r0 0) 3)]))
    .fail))
    (.stop 0 [.l v2]))
  | _ => .fail
def sp_slices_stableCmpFunc_Count_72_7 : LSp := ⟨63, ⟨[(0, .one (.all 0)), (1, .one (.i .i64)), (2, .fn 66 []), (6, .one (.i .i64))], [.arr 54 true]⟩, [(.exit 2, ⟨[], [.arr 54 true]⟩)]⟩
set_option maxRecDepth 100000 in
theorem rq_slices_stableCmpFunc_Count_72_7 (v0 : Int) (v1 : Int) (v2 : List (List PV)) : runK br Try.prog (callK br Try.prog X9 M_slices_stableCmpFunc_Count L_slices_stableCmpFunc_Count (lsT ll_slices_stableCmpFunc_Count_72_9) 40) M_slices_stableCmpFunc_Count (lsT ll_slices_stableCmpFunc_Count_72_9 72 1) 40 1 (L_slices_stableCmpFunc_Count 72) (bodyOf Try.prog 72 7) (sp_slices_stableCmpFunc_Count_72_7.s.ts sp_slices_stableCmpFunc_Count_72_7.n [.i v0, .i v1, .l v2]) (sp_slices_stableCmpFunc_Count_72_7.s.h [.i v0, .i v1, .l v2]) (idc Try.prog 1 (L_slices_stableCmpFunc_Count 72) 7) =
    (rd_slices_stableCmpFunc_Count_72_7 [.i v0, .i v1, .l v2]).go br (fun us' => some (.normal, sp_slices_stableCmpFunc_Count_72_7.s.ts sp_slices_stableCmpFunc_Count_72_7.n us', sp_slices_stableCmpFunc_Count_72_7.s.h us')) sp_slices_stableCmpFunc_Count_72_7.fin := by
  rw [← callF_eq, ← runF_eq]; kernel_rfl
theorem lo_slices_stableCmpFunc_Count_72_7 {R : Type} : LoopTells Try.prog X9 M_slices_stableCmpFunc_Count L_slices_stableCmpFunc_Count 1 (L_slices_stableCmpFunc_Count 72) (bodyOf Try.prog 72 7) (gL (R := R) sp_slices_stableCmpFunc_Count_72_7 rd_slices_stableCmpFunc_Count_72_7 br) :=
  loopTold (callK_ev (loopsOK_list rids lk_slices_stableCmpFunc_Count_72_9) 40) (lsokIn (loopsOK_list rids lk_slices_stableCmpFunc_Count_72_9) 72 1 7) (by kernel_rfl) sp_slices_stableCmpFunc_Count_72_7 rd_slices_stableCmpFunc_Count_72_7 rfl (by kernel_rfl) (by
    intro us v h; unfold rd_slices_stableCmpFunc_Count_72_7 at h; split at h
    · rename_i v0 v1 v2; exact rq_slices_stableCmpFunc_Count_72_7 v0 v1 v2
    · cases h)
noncomputable abbrev ll_slices_stableCmpFunc_Count_72_7 {R : Type} : List (Nat × Nat × Nat × Smy R) := (72, 1, 7, gL sp_slices_stableCmpFunc_Count_72_7 rd_slices_stableCmpFunc_Count_72_7 br) :: ll_slices_stableCmpFunc_Count_72_9
theorem lk_slices_stableCmpFunc_Count_72_7 {R : Type} : ∀ e ∈ ll_slices_stableCmpFunc_Count_72_7 (R := R), LoopTells Try.prog X9 M_slices_stableCmpFunc_Count L_slices_stableCmpFunc_Count e.2.1 (L_slices_stableCmpFunc_Count e.1) (bodyOf Try.prog e.1 e.2.2.1) e.2.2.2 := List.forall_mem_cons.2 ⟨lo_slices_stableCmpFunc_Count_72_7, lk_slices_stableCmpFunc_Count_72_9⟩
def S_slices_stableCmpFunc_Count : FSp := ⟨[.one (.all 0), .one (.i .i64), .fn 66 []], [.arr 54 true], [], [([], [.arr 54 true])]⟩
noncomputable def m_slices_stableCmpFunc_Count : List U → Rt
  | [.i v0, .l v1] =>
    (let r0 : Rs := (lres rd_slices_stableCmpFunc_Count_72_2 [U.i v0, U.i (20 : Int), U.i (0 : Int), U.i (20 : Int), U.l v1])
    (.test (ok r0 0)
    (let r1 : Rs := (Rt.res (m_slices_insertionSortCmpFunc_Count [U.i (uI (out r0 0) 2), U.i (uI (out r0 0) 0), U.l (uL (out r0 0) 3)]))
    (.test (ok r1 0)
    (let r2 : Rs := (lres rd_slices_stableCmpFunc_Count_72_7 [U.i (uI (out r0 0) 0), U.i (uI (out r0 0) 1), U.l (uL (out r1 0) 0)])
    (.test (ok r2 0)
    (.stop 0 [.l (uL (out r2 0) 0)])
    .fail))
    .fail))
    .fail))
  | _ => .fail
set_option maxRecDepth 100000 in
theorem q_slices_stableCmpFunc_Count (v0 : Int) (v1 : List (List PV)) : callK br Try.prog X9 M_slices_stableCmpFunc_Count L_slices_stableCmpFunc_Count (lsT ll_slices_stableCmpFunc_Count_72_7) 60 72 (encs [.i v0, .l v1] 0 S_slices_stableCmpFunc_Count.ap) (encH [.i v0, .l v1] (ws S_slices_stableCmpFunc_Count.ap) S_slices_stableCmpFunc_Count.ah) (fun y => fixR Try.prog S_slices_stableCmpFunc_Count.plan S_slices_stableCmpFunc_Count.ah.length y) =
    (m_slices_stableCmpFunc_Count [.i v0, .l v1]).go br (fun _ => none) S_slices_stableCmpFunc_Count.fin := by
  rw [← callF_eq]; kernel_rfl
theorem e_slices_stableCmpFunc_Count : EOK Try.prog 72 (gF S_slices_stableCmpFunc_Count m_slices_stableCmpFunc_Count) :=
  eokTold mixed named x9 (loopsOK_list rids lk_slices_stableCmpFunc_Count_72_7) 60 S_slices_stableCmpFunc_Count m_slices_stableCmpFunc_Count (by
    intro us v h; unfold m_slices_stableCmpFunc_Count at h; split at h
    · rename_i v0 v1; exact q_slices_stableCmpFunc_Count v0 v1
    · cases h) false
noncomputable abbrev X10 : Ext := extT [(72, (gF S_slices_stableCmpFunc_Count m_slices_stableCmpFunc_Count))] X9
theorem x10 : XOK Try.prog X10 := xok1 x9 e_slices_stableCmpFunc_Count

/-- slices.SortStableFunc[[]levee/api.Count,levee/api.Count] -/
def L_slices_SortStableFunc_ : FuncId → Nat → Option (List Nat) := liveT []
def M_slices_SortStableFunc_ : FuncId → Bool := fun f => f == 72
def S_slices_SortStableFunc_ : FSp := ⟨[.one (.all 0), .fn 66 []], [.arr 54 true], [], [([], [.arr 54 true])]⟩
noncomputable def m_slices_SortStableFunc_ : List U → Rt
  | [.l v0] =>
    (let r0 : Rs := (Rt.res (m_slices_stableCmpFunc_Count [U.i (ln v0), U.l v0]))
    (.test (ok r0 0)
    (.stop 0 [.l (uL (out r0 0) 0)])
    .fail))
  | _ => .fail
set_option maxRecDepth 100000 in
theorem q_slices_SortStableFunc_ (v0 : List (List PV)) : callK br Try.prog X10 M_slices_SortStableFunc_ L_slices_SortStableFunc_ (lsT []) 60 65 (encs [.l v0] 0 S_slices_SortStableFunc_.ap) (encH [.l v0] (ws S_slices_SortStableFunc_.ap) S_slices_SortStableFunc_.ah) (fun y => fixR Try.prog S_slices_SortStableFunc_.plan S_slices_SortStableFunc_.ah.length y) =
    (m_slices_SortStableFunc_ [.l v0]).go br (fun _ => none) S_slices_SortStableFunc_.fin := by
  rw [← callF_eq]; kernel_rfl
theorem e_slices_SortStableFunc_ : EOK Try.prog 65 (gF S_slices_SortStableFunc_ m_slices_SortStableFunc_) :=
  eokTold mixed named x10 (loopsOK_list rids noneIn) 60 S_slices_SortStableFunc_ m_slices_SortStableFunc_ (by
    intro us v h; unfold m_slices_SortStableFunc_ at h; split at h
    · rename_i v0; exact q_slices_SortStableFunc_ v0
    · cases h) false
noncomputable abbrev X11 : Ext := extT [(65, (gF S_slices_SortStableFunc_ m_slices_SortStableFunc_))] X10
theorem x11 : XOK Try.prog X11 := xok1 x10 e_slices_SortStableFunc_

/-- slices.SortStableFunc[[]levee/api.Count,levee/api.Count] -/
def L_sortNil_Count : FuncId → Nat → Option (List Nat) := liveT []
def M_sortNil_Count : FuncId → Bool := fun f => f == 72 || f == 74
def S_sortNil_Count : FSp := ⟨[.one (.nils), .fn 66 []], [], [], [([], [])]⟩
noncomputable def m_sortNil_Count : List U → Rt
  | [] =>
    (.stop 0 [])
  | _ => .fail
set_option maxRecDepth 100000 in
theorem q_sortNil_Count : callK br Try.prog XI M_sortNil_Count L_sortNil_Count (lsT []) 60 65 (encs [] 0 S_sortNil_Count.ap) (encH [] (ws S_sortNil_Count.ap) S_sortNil_Count.ah) (fun y => fixR Try.prog S_sortNil_Count.plan S_sortNil_Count.ah.length y) =
    (m_sortNil_Count []).go br (fun _ => none) S_sortNil_Count.fin := by
  rw [← callF_eq]; kernel_rfl
theorem e_sortNil_Count : EOK Try.prog 65 (gF S_sortNil_Count m_sortNil_Count) :=
  eokTold mixed named xI (loopsOK_list rids noneIn) 60 S_sortNil_Count m_sortNil_Count (by
    intro us v h; unfold m_sortNil_Count at h; split at h
    · exact q_sortNil_Count
    · cases h) false
noncomputable abbrev X12 : Ext := extT [(65, (gE S_sortNil_Count m_sortNil_Count (gF S_slices_SortStableFunc_ m_slices_SortStableFunc_)))] X11
theorem x12 : XOK Try.prog X12 := xok1 x11 (eokE e_sortNil_Count e_slices_SortStableFunc_)

end Go.Proofs.Ytinnnhiaamjjlaa

set_option linter.unusedVariables false
namespace Go.Proofs.Ytinnnhiaamjjlaa
open Go Go.Pu

noncomputable abbrev XJ : Ext := extT [(65, (gE S_sortNil_Count m_sortNil_Count (gF S_slices_SortStableFunc_ m_slices_SortStableFunc_)))] X12
theorem xJ : XOK Try.prog XJ := xokT x12 (List.forall_mem_cons.2 ⟨eokE e_sortNil_Count e_slices_SortStableFunc_, fun _ h => nomatch h⟩)

end Go.Proofs.Ytinnnhiaamjjlaa
