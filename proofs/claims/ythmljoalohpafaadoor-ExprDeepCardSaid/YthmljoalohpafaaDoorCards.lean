/-
  DERIVED. GIVEN WITH THE SEED: THE CARDS: each row of YthmljoalohpafaaDoorRows.lean that lists a variable, with what it lists TIED to the program's text (the seventh form; the later family's looks); each row that meets fmt, with fmt's text TOLD by the authors' own Lean function (tested against real Go, not proved from fmt's source: count such statements apart). THE CARD IS WHAT COUNTS. Prove the row's statement (the work); the ties are given (YthmljoalohpafaaDoorTie.lean); close each card by the builder's one call (the guide's Derived/Test/ToyasCard.lean, 'card_holds'). Laid BY PROGRAM, IN A SANDBOX (cutbox-door.mjs). By AI agents, Wed Nov 11 2026. No macro, syntax, notation, axiom, sorry.
-/
import Derived.Test.YthmljoalohpafaaDoorRows
import GoSem.ClaimSeven
namespace Go.Proofs.YthmljoalohpafaaDoor
namespace Rows

/-- THE TIED CARD OF 'leveelaw03.ExprTyped'. -/
def exprTypedCard : Claim7 := { stood := { row := exprTypedRow, standIns := [], harness := (true, "70c3880c27d94f5034d0dd18a2faee81cda9d37fe1209b8c5d581e0610d03ca7"), looks := false }, kinds := [], alts := [], laidByText := true, laidKinds := [.data, .data, .data, .data, .pinned], laidTests := true, laidLooks := .later }
def ExprTypedCardSaid : Prop := Claim7.holds Tryd.pinned (.plain (OpenSpec.ofChange exprTypedSpec)) exprTypedCard

/-- THE TIED CARD OF 'leveelaw03.ExprConst'. -/
def exprConstCard : Claim7 := { stood := { row := exprConstRow, standIns := [], harness := (true, "70c3880c27d94f5034d0dd18a2faee81cda9d37fe1209b8c5d581e0610d03ca7"), looks := false }, kinds := [], alts := [], laidByText := true, laidKinds := [.data, .data, .data, .data, .pinned], laidTests := true, laidLooks := .later }
def ExprConstCardSaid : Prop := Claim7.holds Tryd.pinned (.plain (OpenSpec.ofChange exprConstSpec)) exprConstCard

/-- THE TIED CARD OF 'leveelaw03.ExprTrue'. -/
def exprTrueCard : Claim7 := { stood := { row := exprTrueRow, standIns := [], harness := (true, "70c3880c27d94f5034d0dd18a2faee81cda9d37fe1209b8c5d581e0610d03ca7"), looks := false }, kinds := [], alts := [], laidByText := true, laidKinds := [.data, .data, .data, .data, .pinned], laidTests := true, laidLooks := .later }
def ExprTrueCardSaid : Prop := Claim7.holds Tryd.pinned (.plain (OpenSpec.ofChange exprTrueSpec)) exprTrueCard

/-- THE TIED CARD OF 'leveelaw03.ExprDeep'. -/
def exprDeepCard : Claim7 := { stood := { row := exprDeepRow, standIns := [], harness := (true, "70c3880c27d94f5034d0dd18a2faee81cda9d37fe1209b8c5d581e0610d03ca7"), looks := false }, kinds := [], alts := [], laidByText := true, laidKinds := [.data, .data, .data, .data, .pinned], laidTests := true, laidLooks := .later }
def ExprDeepCardSaid : Prop := Claim7.holds Tryd.pinned (.plain (OpenSpec.ofChange exprDeepSpec)) exprDeepCard

/-- THE TIED CARD OF 'leveelaw05.BagOf'. -/
def bagOfCard : Claim7 := { stood := { row := bagOfRow, standIns := [], harness := (true, "70c3880c27d94f5034d0dd18a2faee81cda9d37fe1209b8c5d581e0610d03ca7"), looks := false }, kinds := [], alts := [], laidByText := true, laidKinds := [.data, .data, .data, .data, .pinned], laidTests := true, laidLooks := .later }
def BagOfCardSaid : Prop := Claim7.holds Tryd.pinned (.plain (OpenSpec.ofChange bagOfSpec)) bagOfCard

/-- THE TIED CARD OF 'leveelaw05.BagSums'. -/
def bagSumsCard : Claim7 := { stood := { row := bagSumsRow, standIns := [], harness := (true, "70c3880c27d94f5034d0dd18a2faee81cda9d37fe1209b8c5d581e0610d03ca7"), looks := false }, kinds := [], alts := [], laidByText := true, laidKinds := [.data, .data, .data, .data, .pinned], laidTests := true, laidLooks := .later }
def BagSumsCardSaid : Prop := Claim7.holds Tryd.pinned (.plain (OpenSpec.ofChange bagSumsSpec)) bagSumsCard

/-- THE TIED CARD OF 'leveelaw05.BagBack'. -/
def bagBackCard : Claim7 := { stood := { row := bagBackRow, standIns := [], harness := (true, "70c3880c27d94f5034d0dd18a2faee81cda9d37fe1209b8c5d581e0610d03ca7"), looks := false }, kinds := [], alts := [], laidByText := true, laidKinds := [.data, .data, .data, .data, .pinned], laidTests := true, laidLooks := .later }
def BagBackCardSaid : Prop := Claim7.holds Tryd.pinned (.plain (OpenSpec.ofChange bagBackSpec)) bagBackCard

/-- THE TIED CARD OF 'leveelaw05.BagGets'. -/
def bagGetsCard : Claim7 := { stood := { row := bagGetsRow, standIns := [], harness := (true, "70c3880c27d94f5034d0dd18a2faee81cda9d37fe1209b8c5d581e0610d03ca7"), looks := false }, kinds := [], alts := [], laidByText := true, laidKinds := [.data, .data, .data, .data, .pinned], laidTests := true, laidLooks := .later }
def BagGetsCardSaid : Prop := Claim7.holds Tryd.pinned (.plain (OpenSpec.ofChange bagGetsSpec)) bagGetsCard

/-- THE TIED CARD OF 'leveelaw05.BagTexts'. -/
def bagTextsCard : Claim7 := { stood := { row := bagTextsRow, standIns := [], harness := (true, "70c3880c27d94f5034d0dd18a2faee81cda9d37fe1209b8c5d581e0610d03ca7"), looks := false }, kinds := [], alts := [], laidByText := true, laidKinds := [.data, .data, .data, .data, .pinned], laidTests := true, laidLooks := .later }
def BagTextsCardSaid : Prop := Claim7.holds Tryd.pinned (.plain (OpenSpec.ofChange bagTextsSpec)) bagTextsCard

/-- THE TIED CARD OF 'leveelaw05.BagMany'. -/
def bagManyCard : Claim7 := { stood := { row := bagManyRow, standIns := [], harness := (true, "70c3880c27d94f5034d0dd18a2faee81cda9d37fe1209b8c5d581e0610d03ca7"), looks := false }, kinds := [], alts := [], laidByText := true, laidKinds := [.data, .data, .data, .data, .pinned], laidTests := true, laidLooks := .later }
def BagManyCardSaid : Prop := Claim7.holds Tryd.pinned (.plain (OpenSpec.ofChange bagManySpec)) bagManyCard

/-- THE SECOND FORM's CARD OF 'leveelaw03.ExprTyped'. -/
def exprTypedUptoCard : Claim7 := { stood := { row := exprTypedUptoRow, standIns := [], harness := (true, "70c3880c27d94f5034d0dd18a2faee81cda9d37fe1209b8c5d581e0610d03ca7"), looks := false }, kinds := [], alts := [], laidByText := true, laidKinds := [.data, .data, .data, .data, .pinned], laidTests := true, laidLooks := .later }
def ExprTypedUptoCardSaid : Prop := Claim7.holds Tryd.pinned (.plain (OpenSpec.upto exprTypedSpec)) exprTypedUptoCard

/-- THE SECOND FORM's CARD OF 'leveelaw03.ExprConst'. -/
def exprConstUptoCard : Claim7 := { stood := { row := exprConstUptoRow, standIns := [], harness := (true, "70c3880c27d94f5034d0dd18a2faee81cda9d37fe1209b8c5d581e0610d03ca7"), looks := false }, kinds := [], alts := [], laidByText := true, laidKinds := [.data, .data, .data, .data, .pinned], laidTests := true, laidLooks := .later }
def ExprConstUptoCardSaid : Prop := Claim7.holds Tryd.pinned (.plain (OpenSpec.upto exprConstSpec)) exprConstUptoCard

/-- THE SECOND FORM's CARD OF 'leveelaw03.ExprTrue'. -/
def exprTrueUptoCard : Claim7 := { stood := { row := exprTrueUptoRow, standIns := [], harness := (true, "70c3880c27d94f5034d0dd18a2faee81cda9d37fe1209b8c5d581e0610d03ca7"), looks := false }, kinds := [], alts := [], laidByText := true, laidKinds := [.data, .data, .data, .data, .pinned], laidTests := true, laidLooks := .later }
def ExprTrueUptoCardSaid : Prop := Claim7.holds Tryd.pinned (.plain (OpenSpec.upto exprTrueSpec)) exprTrueUptoCard

/-- THE SECOND FORM's CARD OF 'leveelaw03.ExprDeep'. -/
def exprDeepUptoCard : Claim7 := { stood := { row := exprDeepUptoRow, standIns := [], harness := (true, "70c3880c27d94f5034d0dd18a2faee81cda9d37fe1209b8c5d581e0610d03ca7"), looks := false }, kinds := [], alts := [], laidByText := true, laidKinds := [.data, .data, .data, .data, .pinned], laidTests := true, laidLooks := .later }
def ExprDeepUptoCardSaid : Prop := Claim7.holds Tryd.pinned (.plain (OpenSpec.upto exprDeepSpec)) exprDeepUptoCard

/-- THE SECOND FORM's CARD OF 'leveelaw05.BagOf'. -/
def bagOfUptoCard : Claim7 := { stood := { row := bagOfUptoRow, standIns := [], harness := (true, "70c3880c27d94f5034d0dd18a2faee81cda9d37fe1209b8c5d581e0610d03ca7"), looks := false }, kinds := [], alts := [], laidByText := true, laidKinds := [.data, .data, .data, .data, .pinned], laidTests := true, laidLooks := .later }
def BagOfUptoCardSaid : Prop := Claim7.holds Tryd.pinned (.plain (OpenSpec.upto bagOfSpec)) bagOfUptoCard

/-- THE SECOND FORM's CARD OF 'leveelaw05.BagSums'. -/
def bagSumsUptoCard : Claim7 := { stood := { row := bagSumsUptoRow, standIns := [], harness := (true, "70c3880c27d94f5034d0dd18a2faee81cda9d37fe1209b8c5d581e0610d03ca7"), looks := false }, kinds := [], alts := [], laidByText := true, laidKinds := [.data, .data, .data, .data, .pinned], laidTests := true, laidLooks := .later }
def BagSumsUptoCardSaid : Prop := Claim7.holds Tryd.pinned (.plain (OpenSpec.upto bagSumsSpec)) bagSumsUptoCard

/-- THE SECOND FORM's CARD OF 'leveelaw05.BagBack'. -/
def bagBackUptoCard : Claim7 := { stood := { row := bagBackUptoRow, standIns := [], harness := (true, "70c3880c27d94f5034d0dd18a2faee81cda9d37fe1209b8c5d581e0610d03ca7"), looks := false }, kinds := [], alts := [], laidByText := true, laidKinds := [.data, .data, .data, .data, .pinned], laidTests := true, laidLooks := .later }
def BagBackUptoCardSaid : Prop := Claim7.holds Tryd.pinned (.plain (OpenSpec.upto bagBackSpec)) bagBackUptoCard

/-- THE SECOND FORM's CARD OF 'leveelaw05.BagGets'. -/
def bagGetsUptoCard : Claim7 := { stood := { row := bagGetsUptoRow, standIns := [], harness := (true, "70c3880c27d94f5034d0dd18a2faee81cda9d37fe1209b8c5d581e0610d03ca7"), looks := false }, kinds := [], alts := [], laidByText := true, laidKinds := [.data, .data, .data, .data, .pinned], laidTests := true, laidLooks := .later }
def BagGetsUptoCardSaid : Prop := Claim7.holds Tryd.pinned (.plain (OpenSpec.upto bagGetsSpec)) bagGetsUptoCard

/-- THE SECOND FORM's CARD OF 'leveelaw05.BagTexts'. -/
def bagTextsUptoCard : Claim7 := { stood := { row := bagTextsUptoRow, standIns := [], harness := (true, "70c3880c27d94f5034d0dd18a2faee81cda9d37fe1209b8c5d581e0610d03ca7"), looks := false }, kinds := [], alts := [], laidByText := true, laidKinds := [.data, .data, .data, .data, .pinned], laidTests := true, laidLooks := .later }
def BagTextsUptoCardSaid : Prop := Claim7.holds Tryd.pinned (.plain (OpenSpec.upto bagTextsSpec)) bagTextsUptoCard

/-- THE SECOND FORM's CARD OF 'leveelaw05.BagMany'. -/
def bagManyUptoCard : Claim7 := { stood := { row := bagManyUptoRow, standIns := [], harness := (true, "70c3880c27d94f5034d0dd18a2faee81cda9d37fe1209b8c5d581e0610d03ca7"), looks := false }, kinds := [], alts := [], laidByText := true, laidKinds := [.data, .data, .data, .data, .pinned], laidTests := true, laidLooks := .later }
def BagManyUptoCardSaid : Prop := Claim7.holds Tryd.pinned (.plain (OpenSpec.upto bagManySpec)) bagManyUptoCard
end Rows
end Go.Proofs.YthmljoalohpafaaDoor
