/-
  DERIVED. GIVEN WITH THE SEED: THE CARDS: each row of YtccgmaeflmbmlaaDoorRows.lean that lists a variable, with what it lists TIED to the program's text (the seventh form; the later family's looks); each row that meets fmt, with fmt's text TOLD by the authors' own Lean function (tested against real Go, not proved from fmt's source: count such statements apart). THE CARD IS WHAT COUNTS. Prove the row's statement (the work); the ties are given (YtccgmaeflmbmlaaDoorTie.lean); close each card by the builder's one call (the guide's Derived/Test/ToyasCard.lean, 'card_holds'). Laid BY PROGRAM, IN A SANDBOX (cutbox-door.mjs). By AI agents, Wed Nov 11 2026. No macro, syntax, notation, axiom, sorry.
-/
import Derived.Test.YtccgmaeflmbmlaaDoorRows
import GoSem.ClaimSeven
namespace Go.Proofs.YtccgmaeflmbmlaaDoor
namespace Rows

/-- THE TIED CARD OF 'leveelaw01.ValueLogic'. -/
def valueLogicCard : Claim7 := { stood := { row := valueLogicRow, standIns := [], harness := (true, "de28dc54ab1e7d491404f571952b04c1eea6d1870cfa25204f521d26c9e24a8d"), looks := false }, kinds := [], alts := [], laidByText := true, laidKinds := [.data, .data, .data, .data, .pinned], laidTests := true, laidLooks := .later }
def ValueLogicCardSaid : Prop := Claim7.holds Tryd.pinned (.plain (OpenSpec.ofChange valueLogicSpec)) valueLogicCard

/-- THE TIED CARD OF 'leveelaw01.ValueTurns'. -/
def valueTurnsCard : Claim7 := { stood := { row := valueTurnsRow, standIns := [], harness := (true, "de28dc54ab1e7d491404f571952b04c1eea6d1870cfa25204f521d26c9e24a8d"), looks := false }, kinds := [], alts := [], laidByText := true, laidKinds := [.data, .data, .data, .data, .pinned], laidTests := true, laidLooks := .later }
def ValueTurnsCardSaid : Prop := Claim7.holds Tryd.pinned (.plain (OpenSpec.ofChange valueTurnsSpec)) valueTurnsCard

/-- THE TIED CARD OF 'leveelaw01.ValueOrder'. -/
def valueOrderCard : Claim7 := { stood := { row := valueOrderRow, standIns := [], harness := (true, "de28dc54ab1e7d491404f571952b04c1eea6d1870cfa25204f521d26c9e24a8d"), looks := false }, kinds := [], alts := [], laidByText := true, laidKinds := [.data, .data, .data, .data, .pinned], laidTests := true, laidLooks := .later }
def ValueOrderCardSaid : Prop := Claim7.holds Tryd.pinned (.plain (OpenSpec.ofChange valueOrderSpec)) valueOrderCard

/-- THE TIED CARD OF 'leveelaw01.ValueMuls'. -/
def valueMulsCard : Claim7 := { stood := { row := valueMulsRow, standIns := [], harness := (true, "de28dc54ab1e7d491404f571952b04c1eea6d1870cfa25204f521d26c9e24a8d"), looks := false }, kinds := [], alts := [], laidByText := true, laidKinds := [.data, .data, .data, .data, .pinned], laidTests := true, laidLooks := .later }
def ValueMulsCardSaid : Prop := Claim7.holds Tryd.pinned (.plain (OpenSpec.ofChange valueMulsSpec)) valueMulsCard

/-- THE TIED CARD OF 'leveelaw01.ValueTexts'. -/
def valueTextsCard : Claim7 := { stood := { row := valueTextsRow, standIns := [], harness := (true, "de28dc54ab1e7d491404f571952b04c1eea6d1870cfa25204f521d26c9e24a8d"), looks := false }, kinds := [], alts := [], laidByText := true, laidKinds := [.data, .data, .data, .data, .pinned], laidTests := true, laidLooks := .later }
def ValueTextsCardSaid : Prop := Claim7.holds Tryd.pinned (.plain (OpenSpec.ofChange valueTextsSpec)) valueTextsCard

/-- THE TIED CARD OF 'leveelaw01.ValueSums'. -/
def valueSumsCard : Claim7 := { stood := { row := valueSumsRow, standIns := [], harness := (true, "de28dc54ab1e7d491404f571952b04c1eea6d1870cfa25204f521d26c9e24a8d"), looks := false }, kinds := [], alts := [], laidByText := true, laidKinds := [.data, .data, .data, .data, .pinned], laidTests := true, laidLooks := .later }
def ValueSumsCardSaid : Prop := Claim7.holds Tryd.pinned (.plain (OpenSpec.ofChange valueSumsSpec)) valueSumsCard

/-- THE TIED CARD OF 'leveelaw04.RowSorts'. -/
def rowSortsCard : Claim7 := { stood := { row := rowSortsRow, standIns := [], harness := (true, "de28dc54ab1e7d491404f571952b04c1eea6d1870cfa25204f521d26c9e24a8d"), looks := false }, kinds := [], alts := [], laidByText := true, laidKinds := [.data, .data, .data, .data, .pinned], laidTests := true, laidLooks := .later }
def RowSortsCardSaid : Prop := Claim7.holds Tryd.pinned (.plain (OpenSpec.ofChange rowSortsSpec)) rowSortsCard

/-- THE TIED CARD OF 'leveelaw04.RowJoins'. -/
def rowJoinsCard : Claim7 := { stood := { row := rowJoinsRow, standIns := [], harness := (true, "de28dc54ab1e7d491404f571952b04c1eea6d1870cfa25204f521d26c9e24a8d"), looks := false }, kinds := [], alts := [], laidByText := true, laidKinds := [.data, .data, .data, .data, .pinned], laidTests := true, laidLooks := .later }
def RowJoinsCardSaid : Prop := Claim7.holds Tryd.pinned (.plain (OpenSpec.ofChange rowJoinsSpec)) rowJoinsCard

/-- THE TIED CARD OF 'leveelaw04.RowFits'. -/
def rowFitsCard : Claim7 := { stood := { row := rowFitsRow, standIns := [], harness := (true, "de28dc54ab1e7d491404f571952b04c1eea6d1870cfa25204f521d26c9e24a8d"), looks := false }, kinds := [], alts := [], laidByText := true, laidKinds := [.data, .data, .data, .data, .pinned], laidTests := true, laidLooks := .later }
def RowFitsCardSaid : Prop := Claim7.holds Tryd.pinned (.plain (OpenSpec.ofChange rowFitsSpec)) rowFitsCard

/-- THE TIED CARD OF 'leveelaw04.RowTexts'. -/
def rowTextsCard : Claim7 := { stood := { row := rowTextsRow, standIns := [], harness := (true, "de28dc54ab1e7d491404f571952b04c1eea6d1870cfa25204f521d26c9e24a8d"), looks := false }, kinds := [], alts := [], laidByText := true, laidKinds := [.data, .data, .data, .data, .pinned], laidTests := true, laidLooks := .later }
def RowTextsCardSaid : Prop := Claim7.holds Tryd.pinned (.plain (OpenSpec.ofChange rowTextsSpec)) rowTextsCard

/-- THE TIED CARD OF 'leveelaw04.RowParts'. -/
def rowPartsCard : Claim7 := { stood := { row := rowPartsRow, standIns := [], harness := (true, "de28dc54ab1e7d491404f571952b04c1eea6d1870cfa25204f521d26c9e24a8d"), looks := false }, kinds := [], alts := [], laidByText := true, laidKinds := [.data, .data, .data, .data, .pinned], laidTests := true, laidLooks := .later }
def RowPartsCardSaid : Prop := Claim7.holds Tryd.pinned (.plain (OpenSpec.ofChange rowPartsSpec)) rowPartsCard

/-- THE SECOND FORM's CARD OF 'leveelaw01.ValueLogic'. -/
def valueLogicUptoCard : Claim7 := { stood := { row := valueLogicUptoRow, standIns := [], harness := (true, "de28dc54ab1e7d491404f571952b04c1eea6d1870cfa25204f521d26c9e24a8d"), looks := false }, kinds := [], alts := [], laidByText := true, laidKinds := [.data, .data, .data, .data, .pinned], laidTests := true, laidLooks := .later }
def ValueLogicUptoCardSaid : Prop := Claim7.holds Tryd.pinned (.plain (OpenSpec.upto valueLogicSpec)) valueLogicUptoCard

/-- THE SECOND FORM's CARD OF 'leveelaw01.ValueTurns'. -/
def valueTurnsUptoCard : Claim7 := { stood := { row := valueTurnsUptoRow, standIns := [], harness := (true, "de28dc54ab1e7d491404f571952b04c1eea6d1870cfa25204f521d26c9e24a8d"), looks := false }, kinds := [], alts := [], laidByText := true, laidKinds := [.data, .data, .data, .data, .pinned], laidTests := true, laidLooks := .later }
def ValueTurnsUptoCardSaid : Prop := Claim7.holds Tryd.pinned (.plain (OpenSpec.upto valueTurnsSpec)) valueTurnsUptoCard

/-- THE SECOND FORM's CARD OF 'leveelaw01.ValueOrder'. -/
def valueOrderUptoCard : Claim7 := { stood := { row := valueOrderUptoRow, standIns := [], harness := (true, "de28dc54ab1e7d491404f571952b04c1eea6d1870cfa25204f521d26c9e24a8d"), looks := false }, kinds := [], alts := [], laidByText := true, laidKinds := [.data, .data, .data, .data, .pinned], laidTests := true, laidLooks := .later }
def ValueOrderUptoCardSaid : Prop := Claim7.holds Tryd.pinned (.plain (OpenSpec.upto valueOrderSpec)) valueOrderUptoCard

/-- THE SECOND FORM's CARD OF 'leveelaw01.ValueMuls'. -/
def valueMulsUptoCard : Claim7 := { stood := { row := valueMulsUptoRow, standIns := [], harness := (true, "de28dc54ab1e7d491404f571952b04c1eea6d1870cfa25204f521d26c9e24a8d"), looks := false }, kinds := [], alts := [], laidByText := true, laidKinds := [.data, .data, .data, .data, .pinned], laidTests := true, laidLooks := .later }
def ValueMulsUptoCardSaid : Prop := Claim7.holds Tryd.pinned (.plain (OpenSpec.upto valueMulsSpec)) valueMulsUptoCard

/-- THE SECOND FORM's CARD OF 'leveelaw01.ValueTexts'. -/
def valueTextsUptoCard : Claim7 := { stood := { row := valueTextsUptoRow, standIns := [], harness := (true, "de28dc54ab1e7d491404f571952b04c1eea6d1870cfa25204f521d26c9e24a8d"), looks := false }, kinds := [], alts := [], laidByText := true, laidKinds := [.data, .data, .data, .data, .pinned], laidTests := true, laidLooks := .later }
def ValueTextsUptoCardSaid : Prop := Claim7.holds Tryd.pinned (.plain (OpenSpec.upto valueTextsSpec)) valueTextsUptoCard

/-- THE SECOND FORM's CARD OF 'leveelaw01.ValueSums'. -/
def valueSumsUptoCard : Claim7 := { stood := { row := valueSumsUptoRow, standIns := [], harness := (true, "de28dc54ab1e7d491404f571952b04c1eea6d1870cfa25204f521d26c9e24a8d"), looks := false }, kinds := [], alts := [], laidByText := true, laidKinds := [.data, .data, .data, .data, .pinned], laidTests := true, laidLooks := .later }
def ValueSumsUptoCardSaid : Prop := Claim7.holds Tryd.pinned (.plain (OpenSpec.upto valueSumsSpec)) valueSumsUptoCard

/-- THE SECOND FORM's CARD OF 'leveelaw04.RowSorts'. -/
def rowSortsUptoCard : Claim7 := { stood := { row := rowSortsUptoRow, standIns := [], harness := (true, "de28dc54ab1e7d491404f571952b04c1eea6d1870cfa25204f521d26c9e24a8d"), looks := false }, kinds := [], alts := [], laidByText := true, laidKinds := [.data, .data, .data, .data, .pinned], laidTests := true, laidLooks := .later }
def RowSortsUptoCardSaid : Prop := Claim7.holds Tryd.pinned (.plain (OpenSpec.upto rowSortsSpec)) rowSortsUptoCard

/-- THE SECOND FORM's CARD OF 'leveelaw04.RowJoins'. -/
def rowJoinsUptoCard : Claim7 := { stood := { row := rowJoinsUptoRow, standIns := [], harness := (true, "de28dc54ab1e7d491404f571952b04c1eea6d1870cfa25204f521d26c9e24a8d"), looks := false }, kinds := [], alts := [], laidByText := true, laidKinds := [.data, .data, .data, .data, .pinned], laidTests := true, laidLooks := .later }
def RowJoinsUptoCardSaid : Prop := Claim7.holds Tryd.pinned (.plain (OpenSpec.upto rowJoinsSpec)) rowJoinsUptoCard

/-- THE SECOND FORM's CARD OF 'leveelaw04.RowFits'. -/
def rowFitsUptoCard : Claim7 := { stood := { row := rowFitsUptoRow, standIns := [], harness := (true, "de28dc54ab1e7d491404f571952b04c1eea6d1870cfa25204f521d26c9e24a8d"), looks := false }, kinds := [], alts := [], laidByText := true, laidKinds := [.data, .data, .data, .data, .pinned], laidTests := true, laidLooks := .later }
def RowFitsUptoCardSaid : Prop := Claim7.holds Tryd.pinned (.plain (OpenSpec.upto rowFitsSpec)) rowFitsUptoCard

/-- THE SECOND FORM's CARD OF 'leveelaw04.RowTexts'. -/
def rowTextsUptoCard : Claim7 := { stood := { row := rowTextsUptoRow, standIns := [], harness := (true, "de28dc54ab1e7d491404f571952b04c1eea6d1870cfa25204f521d26c9e24a8d"), looks := false }, kinds := [], alts := [], laidByText := true, laidKinds := [.data, .data, .data, .data, .pinned], laidTests := true, laidLooks := .later }
def RowTextsUptoCardSaid : Prop := Claim7.holds Tryd.pinned (.plain (OpenSpec.upto rowTextsSpec)) rowTextsUptoCard

/-- THE SECOND FORM's CARD OF 'leveelaw04.RowParts'. -/
def rowPartsUptoCard : Claim7 := { stood := { row := rowPartsUptoRow, standIns := [], harness := (true, "de28dc54ab1e7d491404f571952b04c1eea6d1870cfa25204f521d26c9e24a8d"), looks := false }, kinds := [], alts := [], laidByText := true, laidKinds := [.data, .data, .data, .data, .pinned], laidTests := true, laidLooks := .later }
def RowPartsUptoCardSaid : Prop := Claim7.holds Tryd.pinned (.plain (OpenSpec.upto rowPartsSpec)) rowPartsUptoCard
end Rows
end Go.Proofs.YtccgmaeflmbmlaaDoor
