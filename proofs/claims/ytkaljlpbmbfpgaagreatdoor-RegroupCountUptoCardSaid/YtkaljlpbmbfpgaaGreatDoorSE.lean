/- The pure machine, thirty-first part: a law's row out of a pure equation. -/
import Derived.Test.YtkaljlpbmbfpgaaGreatDoorSD
import Derived.WalkKit
import Derived.ProofKit
import Derived.OpenShut
import Derived.ShutString
import Derived.ChangeOld
import Derived.Carry
set_option linter.unusedSimpArgs false
set_option linter.unusedVariables false
namespace Go.Pu
open Go.ChangeShapes Go.WideShapes Go.ChangeAt Go.RowKit

/-- an argument's pure data is of its type, and not too large -/
def ArgGd (P : Program) (t : TypeId) (x : PV) : Prop :=
 match P.underlying t with
 | some (.struct _) => ∃ xs, x = .agg xs ∧ Gds P (kds P t) xs
 | some (.array _ _) => ∃ xs, x = .agg xs ∧ Gds P (kds P t) xs
 | _ => Gd P (kdOf P t) x

def ArgsGd (P : Program) : List TypeId → List PV → Prop
 | [], [] => True
 | t :: ts, x :: xs => ArgGd P t x ∧ ArgsGd P ts xs
 | _, _ => False

section
variable {P : Program} {H : Type} {enc : TypeId × Value → H} {W : World}

theorem told_arg {base m : Nat} {t : TypeId} {v : Value} {d : DataW H} {ps : List MemPlace} (hok : Value.okWide P W .any base t v) (h : DataW.Trod enc P W 0 (fun _ => true) true t v d ps) (hl : lay P m t = true) (hw : ∀ x ∈ d.weights P t, x ≤ reachBytes) :
  ∃ x, ArgGd P t x ∧ Rep P (Env.start W) x v := by
 obtain ⟨fuel, hf⟩ := h
 cases m with
 | zero => simp [lay] at hl
 | succ m =>
  obtain ⟨xs, g1, g2, g3⟩ := told_trod fuel 6 m t _ d ps hf (by simpa [lay] using hl) hw
  unfold ArgGd
  simp only [lay, layS] at hl
  split at hl
  ·rename_i fs hu
   simp only [Value.okWide, hu] at hok
   obtain ⟨cs, rfl, hsz, _⟩ := hok
   simp only [Value.cells] at g2 g3
   exact ⟨.agg xs, by rw [hu]; exact ⟨xs, rfl, g1⟩, .agg xs cs (by simpa using g2) fun j hj => by simpa [List.getD] using g3 j hj⟩
  ·rename_i n e hu
   simp only [Value.okWide, hu] at hok
   obtain ⟨cs, rfl, hsz, _⟩ := hok
   simp only [Value.cells] at g2 g3
   exact ⟨.agg xs, by rw [hu]; exact ⟨xs, rfl, g1⟩, .agg xs cs (by simpa using g2) fun j hj => by simpa [List.getD] using g3 j hj⟩
  ·rename_i e hu
   obtain ⟨a, len, cap, rfl⟩ := okWide_slice hu hok
   have h1 := g1.gd 0 (by simp [kdsOf, hu])
   have h2 := g3 0 (by rw [g2]; simp [Value.cells])
   exact ⟨_, by simpa [kdsOf, hu] using h1, by simpa [Value.cells] using h2⟩
  ·rename_i hu
   have : ∃ b, v = .bool b := by
    simp only [Value.okWide, hu, Cell.okWide] at hok
    cases v <;> simp_all [Cell.ok]
   obtain ⟨b, rfl⟩ := this
   have h1 := g1.gd 0 (by simp [kdsOf, hu])
   have h2 := g3 0 (by rw [g2]; simp [Value.cells])
   exact ⟨_, by simpa [kdsOf, hu] using h1, by simpa [Value.cells] using h2⟩
  ·rename_i k hu
   obtain ⟨n, rfl⟩ := okWide_int hu hok
   have h1 := g1.gd 0 (by simp [kdsOf, hu])
   have h2 := g3 0 (by rw [g2]; simp [Value.cells])
   exact ⟨_, by simpa [kdsOf, hu] using h1, by simpa [Value.cells] using h2⟩
  ·rename_i hu
   obtain ⟨s, rfl⟩ := okWide_string hu hok
   have h1 := g1.gd 0 (by simp [kdsOf, hu])
   have h2 := g3 0 (by rw [g2]; simp [Value.cells])
   exact ⟨_, by simpa [kdsOf, hu] using h1, by simpa [Value.cells] using h2⟩
  ·cases hl

theorem trodAll_below (hl : laidOutB P = true) {W' : World} (hb : Below W.heap.size W W') : ∀ {ts : List TypeId} {vs : List Value} {ds : List (DataW H)} {ps : List MemPlace}, ts.all (fun t => P.readableRec t && decide (t < P.types.size)) = true →
  DataW.TrodAll enc P W 0 (fun _ => true) true ts vs ds ps → DataW.TrodAll enc P W' 0 (fun b => decide (b < W.heap.size)) true ts vs ds ps
 | [], [], [], _, _, h => h
 | t :: ts, v :: vs, d :: ds, ps, hr, h => by
  obtain ⟨p, q, h1, h2, rfl⟩ := h
  simp only [List.all_cons, Bool.and_eq_true, decide_eq_true_eq] at hr
  have hlt : ∀ x ∈ p, x.block < W.heap.size := by obtain ⟨m, hm⟩ := h1; exact DataW.trod_lt m _ _ _ hm
  exact ⟨p, q, Below.trod hl hr.1.1 hr.1.2 h1 hb hlt, trodAll_below hl hb (by simpa using hr.2) h2, rfl⟩
 | [], _ :: _, _, _, _, h => h.elim
 | [], [], _ :: _, _, _, h => h.elim
 | _ :: _, [], _, _, _, h => h.elim
 | _ :: _, _ :: _, [], _, _, h => h.elim

theorem trodAll_len : ∀ {ts : List TypeId} {vs : List Value} {ds : List (DataW H)} {ps : List MemPlace}, DataW.TrodAll enc P W 0 (fun _ => true) true ts vs ds ps → ds.length = ts.length
 | [], [], [], _, _ => rfl
 | t :: ts, v :: vs, d :: ds, ps, h => by
  obtain ⟨p, q, h1, h2, rfl⟩ := h
  simp [trodAll_len h2]
 | [], _ :: _, _, _, h => h.elim
 | [], [], _ :: _, _, h => h.elim
 | _ :: _, [], _, _, h => h.elim
 | _ :: _, _ :: _, [], _, h => h.elim

/-- a call whose end the pure machine tells, from the world that it finds -/
theorem call_start {X : Ext} {M : FuncId → Bool} {L : FuncId → Nat → Option (List Nat)} (hm : P.follows .mixedOrders = true) (hN : Named P) (hX : XOK P X) {f : FuncId} {xs : List PV} {n : Nat} {b : Bool} {hc : Heap}
  (h : call P X M L n f xs [] = some (.bool b, hc)) {vs : List Value} (hx : RepL P (Env.start W) xs vs) (hW : Tab W fun b => b < W.heap.size) : Calls P f vs.toArray W fun e W' => e = .returned (.bool b) ∧ Below W.heap.size W W' := by
 obtain ⟨_, h2⟩ := call_ok hm hN hX M L n f xs [] _ _ h
 refine (h2 (Env.start W) vs rfl (fun b hb => by simp at hb) (start_inv P W hW) hx).mono ?_
 rintro e W' ⟨v, E', rfl, rfl, _, hT, _, hr⟩
 refine ⟨by rw [hr.bool_inv], hT.os, hT.tape, hT.output, hT.size, fun k hk => hT.frame k hk ?_⟩
 rintro ⟨b, h⟩
 exact start_own h

end

end Go.Pu
