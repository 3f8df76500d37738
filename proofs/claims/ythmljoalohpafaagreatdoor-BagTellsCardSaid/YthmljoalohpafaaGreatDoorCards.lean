/-
  DERIVED. GIVEN WITH THE SEED: THE CARDS: each row of YthmljoalohpafaaGreatDoorRows.lean that lists a variable, with what it lists TIED to the program's text (the seventh form; the later family's looks); each row that meets fmt, with fmt's text TOLD by the authors' own Lean function (tested against real Go, not proved from fmt's source: count such statements apart). THE CARD IS WHAT COUNTS. Prove the row's statement (the work); the ties are given (YthmljoalohpafaaGreatDoorTie.lean); close each card by the builder's one call (the guide's Derived/Test/ToyasCard.lean, 'card_holds'). Laid BY PROGRAM, IN A SANDBOX (cutbox-door.mjs). By AI agents, Wed Nov 11 2026. No macro, syntax, notation, axiom, sorry.
-/
import Derived.Test.YthmljoalohpafaaGreatDoorRows
import GoSem.ClaimSeven
namespace Go.Proofs.YthmljoalohpafaaGreatDoor
namespace Rows

/-- THE TIED CARD OF 'leveelaw03.ExprParts'. -/
def exprPartsCard : Claim7 := { stood := { row := exprPartsRow, standIns := [], harness := (true, "36741f8c1055bbf3d0504358837bf3d0dae1f847a6d883d91d5d511bea1824e3"), looks := false }, kinds := [], alts := [], laidByText := true, laidKinds := [.data, .data, .data, .data, .pinned], laidTests := true, laidLooks := .later }
def ExprPartsCardSaid : Prop := Claim7.holds Tryz.pinned (.plain (OpenSpec.ofChange exprPartsSpec)) exprPartsCard

/-- THE TIED CARD OF 'leveelaw05.BagTells'. -/
def bagTellsCard : Claim7 := { stood := { row := bagTellsRow, standIns := [], harness := (true, "36741f8c1055bbf3d0504358837bf3d0dae1f847a6d883d91d5d511bea1824e3"), looks := false }, kinds := [], alts := [], laidByText := true, laidKinds := [.data, .data, .data, .data, .pinned], laidTests := true, laidLooks := .later }
def BagTellsCardSaid : Prop := Claim7.holds Tryz.pinned (.plain (OpenSpec.ofChange bagTellsSpec)) bagTellsCard

/-- THE SECOND FORM's CARD OF 'leveelaw03.ExprParts'. -/
def exprPartsUptoCard : Claim7 := { stood := { row := exprPartsUptoRow, standIns := [], harness := (true, "36741f8c1055bbf3d0504358837bf3d0dae1f847a6d883d91d5d511bea1824e3"), looks := false }, kinds := [], alts := [], laidByText := true, laidKinds := [.data, .data, .data, .data, .pinned], laidTests := true, laidLooks := .later }
def ExprPartsUptoCardSaid : Prop := Claim7.holds Tryz.pinned (.plain (OpenSpec.upto exprPartsSpec)) exprPartsUptoCard

/-- THE SECOND FORM's CARD OF 'leveelaw05.BagTells'. -/
def bagTellsUptoCard : Claim7 := { stood := { row := bagTellsUptoRow, standIns := [], harness := (true, "36741f8c1055bbf3d0504358837bf3d0dae1f847a6d883d91d5d511bea1824e3"), looks := false }, kinds := [], alts := [], laidByText := true, laidKinds := [.data, .data, .data, .data, .pinned], laidTests := true, laidLooks := .later }
def BagTellsUptoCardSaid : Prop := Claim7.holds Tryz.pinned (.plain (OpenSpec.upto bagTellsSpec)) bagTellsUptoCard
end Rows
end Go.Proofs.YthmljoalohpafaaGreatDoor
