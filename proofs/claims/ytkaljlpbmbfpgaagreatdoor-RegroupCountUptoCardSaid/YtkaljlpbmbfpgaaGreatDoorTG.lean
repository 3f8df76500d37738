/- Rows of the library's functions, out of contracts: the world grows, nothing that was there is changed. -/
import Derived.Test.YtkaljlpbmbfpgaaGreatDoorTE
set_option linter.unusedSimpArgs false
set_option linter.unusedVariables false
namespace Go.Pu
open Go.RowKit

section
variable {P : Program}

theorem grow_env {E : Env} (hI : Inv P E) {w' : World} (hg : Grow E.w w') : Trans E { E with w := w' } ∧ Inv P { E with w := w' } := by
 have conv : ∀ i k, OwnB { E with w := w' } i k → OwnB E i k := fun i k h => OwnB.keep (E := E) (E' := { E with w := w' }) rfl rfl (fun ob hρ hb => hg.old ob (hI.mapOb_lt hρ hb)) h
 have hT : Trans E { E with w := w' } :=
  ⟨fun _ => Compat.refl _, fun _ _ _ _ => rfl, fun _ h => h, hg.size, hg.os, hg.tape, hg.output, fun k hk _ => hg.old k hk, fun k c T fz h => ⟨c, by rw [← h]; exact hg.old k (heap_lt h), rfl⟩, fun _ _ ⟨i, h⟩ => ⟨i, conv i _ h⟩, fun _ _ h => .inl h⟩
 exact ⟨hT, fun b => (hI.blk b).keep hI hT rfl rfl (fun blk _ h => hg.old blk h) (fun _ _ h => h), fun i j k hi hj => hI.own i j k (conv i k hi) (conv j k hj), fun k hk => Nat.lt_of_lt_of_le (hI.imlt k hk) hg.size, hI.tabT hT⟩

theorem grow_below {w w' : World} (h : Below w.heap.size w w') : Grow w w' := ⟨h.size, h.os, h.tape, h.output, h.block⟩

/-- a row of a function that changes nothing that was there -/
theorem rowLib {f : FuncId} {xs : List PV} {hc : Heap} {r : PV} (hf : ∃ fn, P.funcs[f]? = some fn ∧ fn.body.isSome = true)
  (h : ∀ (E : Env) (vs : List Value), E.h = hc → Inv P E → RepL P E xs vs → Calls P f vs.toArray E.w fun e w' => ∃ v, e = .returned v ∧ Grow E.w w' ∧ ∀ E' : Env, Rep P E' r v) : RowAt P f xs hc (r, hc) := by
 refine ⟨hf, fun E vs hE hok hI hL => (h E vs hE hI hL).mono ?_⟩
 rintro e w' ⟨v, rfl, hg, hr⟩
 obtain ⟨hT, hN⟩ := grow_env hI hg
 subst hE
 exact ⟨v, { E with w := w' }, rfl, rfl, rfl, hT.toK (Nat.le_refl _), hN, hr _⟩

theorem repL_0 {E : Env} {x : PV} {xs : List PV} {vs : List Value} (h : RepL P E (x :: xs) vs) : ∃ v vs', vs = v :: vs' ∧ Rep P E x v ∧ RepL P E xs vs' := by
 obtain ⟨hl, hr⟩ := h
 match vs, hl, hr with
 | v :: vs', hl, hr => exact ⟨v, vs', rfl, by simpa using hr 0 (by simp), by simpa using hl, fun i hi => by simpa using hr (i + 1) (by simpa using hi)⟩

theorem repL_nil {E : Env} {vs : List Value} (h : RepL P E [] vs) : vs = [] := by
 have := h.1
 simpa using this.symm

end
end Go.Pu
