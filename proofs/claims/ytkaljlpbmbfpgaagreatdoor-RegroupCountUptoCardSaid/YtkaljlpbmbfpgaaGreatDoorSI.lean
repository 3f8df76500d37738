/- The pure machine: functions that are told once, and used as told. -/
import Derived.Test.YtkaljlpbmbfpgaaGreatDoorSL
set_option linter.unusedSimpArgs false
set_option linter.unusedVariables false
namespace Go.Pu

abbrev Res2 := PV × List Blk

section
variable {P : Program}

theorem val_test {b : Bool} {v : PV} {h : List Blk} {r : Res2} (hg : (Tr.test b (.ret v h) .fail).val = some r) : b = true ∧ r = (v, h) := by
 simp only [Tr.val] at hg
 split at hg
 ·rename_i hb; cases hg; exact ⟨hb, rfl⟩
 ·cases hg

/-- a function's table row, told by the machine -/
def Tells (P : Program) (X : Ext) (M : FuncId → Bool) (L : FuncId → Nat → Option (List Nat)) (LS : FuncId → Nat → Nat → Option (Smy Res2)) (f : FuncId) (g : List PV → List Blk → Tr) : Prop :=
 ∀ xs hc r, (g xs hc).val = some r → ∃ n, callK br P X M L LS n f xs hc (fun y => some y) = some r

theorem XOK.more (hm : P.follows .mixedOrders = true) (hN : Named P) {X X' : Ext} (hX : XOK P X) {M : FuncId → Bool} {L : FuncId → Nat → Option (List Nat)} {LS : FuncId → Nat → Nat → Option (Smy Res2)} (hLS : LoopsOK P X M L LS)
  (h : ∀ f g, X' f = some g → X f = some g ∨ Tells P X M L LS f g) : XOK P X' := by
 intro f g xs hc r hf hg
 rcases h f g hf with h1 | h1
 ·exact hX f g xs hc r h1 hg
 ·obtain ⟨n, hn⟩ := h1 xs hc r hg
  obtain ⟨C, y, ⟨N, rfl⟩, e1, e2⟩ := callK_ev hLS n _ _ _ _ _ hn
  cases e2
  obtain ⟨r1, r2⟩ := r
  obtain ⟨f1, f2⟩ := call_ok hm hN hX M L N f xs hc r1 r2 e1
  exact ⟨f1, f2⟩

/-- no loop is told ahead -/
def noLS : FuncId → Nat → Nat → Option (Smy Res2) := fun _ _ _ => none

theorem noLS_ok (P : Program) (X : Ext) (M : FuncId → Bool) (L : FuncId → Nat → Option (List Nat)) : LoopsOK P X M L noLS :=
 fun _ _ _ _ _ _ a _ g hg => by simp [noLS] at hg

end
end Go.Pu
