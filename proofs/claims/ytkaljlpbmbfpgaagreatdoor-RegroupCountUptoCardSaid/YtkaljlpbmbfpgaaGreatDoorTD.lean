/- slices.Clone: of nothing, too. -/
import Derived.Test.YtkaljlpbmbfpgaaGreatDoorTB
set_option linter.unusedSimpArgs false
set_option linter.unusedVariables false
namespace Go.Pu

/-- slices.Clone -/
def gClone (t bytes : Nat) : List PV → List Blk → Tr := fun xs hc =>
 match xs, hc with
 | [.lst t' es], [] => if t' = t then .test (decide ((0 + es.length) * bytes ≤ 140737488355328)) (.ret (.all 0) [.arr t es true]) .fail else .fail
 | _, _ => .fail

theorem eokClone {P : Program} {f : FuncId} {t bytes : Nat} (h1 : ∀ e es, (0 + (e :: es).length) * bytes ≤ 140737488355328 → RowAt P f [.lst t (e :: es)] [] (.all 0, [.arr t (e :: es) true]))
  (h2 : RowAt P f [.nils] [] (.all 0, [.arr t [] true])) (h3 : RowAt P f [.new t [[]]] [] (.all 0, [.arr t [] true])) : EOK P f (gClone t bytes) := by
 refine eok_rows fun xs hc r hg => ?_
 unfold gClone at hg
 split at hg
 ·rename_i t' es
  split at hg
  ·rename_i et
   subst et
   obtain ⟨hb, rfl⟩ := val_test hg
   have hb := of_decide_eq_true hb
   cases es with
   | cons e es => exact h1 e es hb
   | nil =>
    refine ⟨h2.1, fun E vs hE hok hI hL => ?_⟩
    obtain ⟨hl, hr⟩ := hL
    match vs, hl, hr with
    | [v], hl, hr =>
     have h0 := hr 0 (by simp)
     simp only [List.getD, List.getElem?_cons_zero, Option.getD_some] at h0
     have one : ∀ x, Rep P E x v → RepL P E [x] [v] := fun x hx => ⟨rfl, fun i hi => by
      have : i = 0 := by simpa using hi
      subst this; simpa [List.getD] using hx⟩
     have hcase : (∃ u, v = .slice none 0 0 ∧ u = ()) ∨ Rep P E (.new t' [[]]) v := by
      generalize hes : ([] : List (List PV)) = es at h0
      cases h0 with
      | lst0 _ A cap hA =>
       cases A with
       | none => obtain rfl := hA rfl; exact .inl ⟨(), rfl, rfl⟩
       | some a => exact .inr (.zany t' [] [] (some a) cap (by simp))
      | lst _ _ blk o cap sz c T fz hs hb' him hcap hlen hk hrr => subst hes; exact .inr (.zany t' [] [] _ cap (by simp))
     rcases hcase with ⟨_, rfl, _⟩ | hn
     ·exact h2.2 E _ hE hok hI (one _ .nils)
     ·exact h3.2 E _ hE hok hI (one _ hn)
  ·cases hg
 ·cases hg

end Go.Pu
