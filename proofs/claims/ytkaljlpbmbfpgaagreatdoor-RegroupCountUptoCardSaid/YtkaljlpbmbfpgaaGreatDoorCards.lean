/-
  DERIVED. GIVEN WITH THE SEED: THE CARDS: each row of YtkaljlpbmbfpgaaGreatDoorRows.lean that lists a variable, with what it lists TIED to the program's text (the seventh form; the later family's looks); each row that meets fmt, with fmt's text TOLD by the authors' own Lean function (tested against real Go, not proved from fmt's source: count such statements apart). THE CARD IS WHAT COUNTS. Prove the row's statement (the work); the ties are given (YtkaljlpbmbfpgaaGreatDoorTie.lean); close each card by the builder's one call (the guide's Derived/Test/ToyasCard.lean, 'card_holds'). Laid BY PROGRAM, IN A SANDBOX (cutbox-door.mjs). By AI agents, Wed Nov 11 2026. No macro, syntax, notation, axiom, sorry.
-/
import Derived.Test.YtkaljlpbmbfpgaaGreatDoorRows
import GoSem.ClaimSeven
namespace Go.Proofs.YtkaljlpbmbfpgaaGreatDoor
namespace Rows

/-- THE TIED CARD OF 'leveelaw11.GroupTells'. -/
def groupTellsCard : Claim7 := { stood := { row := groupTellsRow, standIns := [], harness := (true, "42aa57ec9fd8dbe30d7f06299275172cc9671e43f9892e4eb64f8b0072ec2fd0"), looks := false }, kinds := [], alts := [], laidByText := true, laidKinds := [.data, .data, .data, .data, .pinned], laidTests := true, laidLooks := .later }
def GroupTellsCardSaid : Prop := Claim7.holds Tryz.pinned (.plain (OpenSpec.ofChange groupTellsSpec)) groupTellsCard

/-- THE TIED CARD OF 'leveelaw11.GroupCounts'. -/
def groupCountsCard : Claim7 := { stood := { row := groupCountsRow, standIns := [], harness := (true, "42aa57ec9fd8dbe30d7f06299275172cc9671e43f9892e4eb64f8b0072ec2fd0"), looks := false }, kinds := [], alts := [], laidByText := true, laidKinds := [.data, .data, .data, .data, .pinned], laidTests := true, laidLooks := .later }
def GroupCountsCardSaid : Prop := Claim7.holds Tryz.pinned (.plain (OpenSpec.ofChange groupCountsSpec)) groupCountsCard

/-- THE TIED CARD OF 'leveelaw11.GroupEnds'. -/
def groupEndsCard : Claim7 := { stood := { row := groupEndsRow, standIns := [], harness := (true, "42aa57ec9fd8dbe30d7f06299275172cc9671e43f9892e4eb64f8b0072ec2fd0"), looks := false }, kinds := [], alts := [], laidByText := true, laidKinds := [.data, .data, .data, .data, .pinned], laidTests := true, laidLooks := .later }
def GroupEndsCardSaid : Prop := Claim7.holds Tryz.pinned (.plain (OpenSpec.ofChange groupEndsSpec)) groupEndsCard

/-- THE TIED CARD OF 'leveelaw11.GroupOne'. -/
def groupOneCard : Claim7 := { stood := { row := groupOneRow, standIns := [], harness := (true, "42aa57ec9fd8dbe30d7f06299275172cc9671e43f9892e4eb64f8b0072ec2fd0"), looks := false }, kinds := [], alts := [], laidByText := true, laidKinds := [.data, .data, .data, .data, .pinned], laidTests := true, laidLooks := .later }
def GroupOneCardSaid : Prop := Claim7.holds Tryz.pinned (.plain (OpenSpec.ofChange groupOneSpec)) groupOneCard

/-- THE TIED CARD OF 'leveelaw11.GroupParts'. -/
def groupPartsCard : Claim7 := { stood := { row := groupPartsRow, standIns := [], harness := (true, "42aa57ec9fd8dbe30d7f06299275172cc9671e43f9892e4eb64f8b0072ec2fd0"), looks := false }, kinds := [], alts := [], laidByText := true, laidKinds := [.data, .data, .data, .data, .pinned], laidTests := true, laidLooks := .later }
def GroupPartsCardSaid : Prop := Claim7.holds Tryz.pinned (.plain (OpenSpec.ofChange groupPartsSpec)) groupPartsCard

/-- THE TIED CARD OF 'leveelaw14.RegroupTells'. -/
def regroupTellsCard : Claim7 := { stood := { row := regroupTellsRow, standIns := [], harness := (true, "42aa57ec9fd8dbe30d7f06299275172cc9671e43f9892e4eb64f8b0072ec2fd0"), looks := false }, kinds := [], alts := [], laidByText := true, laidKinds := [.data, .data, .data, .data, .pinned], laidTests := true, laidLooks := .later }
def RegroupTellsCardSaid : Prop := Claim7.holds Tryz.pinned (.plain (OpenSpec.ofChange regroupTellsSpec)) regroupTellsCard

/-- THE TIED CARD OF 'leveelaw14.RegroupAdds'. -/
def regroupAddsCard : Claim7 := { stood := { row := regroupAddsRow, standIns := [], harness := (true, "42aa57ec9fd8dbe30d7f06299275172cc9671e43f9892e4eb64f8b0072ec2fd0"), looks := false }, kinds := [], alts := [], laidByText := true, laidKinds := [.data, .data, .data, .data, .pinned], laidTests := true, laidLooks := .later }
def RegroupAddsCardSaid : Prop := Claim7.holds Tryz.pinned (.plain (OpenSpec.ofChange regroupAddsSpec)) regroupAddsCard

/-- THE TIED CARD OF 'leveelaw14.RegroupLimited'. -/
def regroupLimitedCard : Claim7 := { stood := { row := regroupLimitedRow, standIns := [], harness := (true, "42aa57ec9fd8dbe30d7f06299275172cc9671e43f9892e4eb64f8b0072ec2fd0"), looks := false }, kinds := [], alts := [], laidByText := true, laidKinds := [.data, .data, .data, .data, .pinned], laidTests := true, laidLooks := .later }
def RegroupLimitedCardSaid : Prop := Claim7.holds Tryz.pinned (.plain (OpenSpec.ofChange regroupLimitedSpec)) regroupLimitedCard

/-- THE TIED CARD OF 'leveelaw14.RegroupBack'. -/
def regroupBackCard : Claim7 := { stood := { row := regroupBackRow, standIns := [], harness := (true, "42aa57ec9fd8dbe30d7f06299275172cc9671e43f9892e4eb64f8b0072ec2fd0"), looks := false }, kinds := [], alts := [], laidByText := true, laidKinds := [.data, .data, .data, .data, .pinned], laidTests := true, laidLooks := .later }
def RegroupBackCardSaid : Prop := Claim7.holds Tryz.pinned (.plain (OpenSpec.ofChange regroupBackSpec)) regroupBackCard

/-- THE TIED CARD OF 'leveelaw14.RegroupCount'. -/
def regroupCountCard : Claim7 := { stood := { row := regroupCountRow, standIns := [], harness := (true, "42aa57ec9fd8dbe30d7f06299275172cc9671e43f9892e4eb64f8b0072ec2fd0"), looks := false }, kinds := [], alts := [], laidByText := true, laidKinds := [.data, .data, .data, .data, .pinned], laidTests := true, laidLooks := .later }
def RegroupCountCardSaid : Prop := Claim7.holds Tryz.pinned (.plain (OpenSpec.ofChange regroupCountSpec)) regroupCountCard

/-- THE SECOND FORM's CARD OF 'leveelaw11.GroupTells'. -/
def groupTellsUptoCard : Claim7 := { stood := { row := groupTellsUptoRow, standIns := [], harness := (true, "42aa57ec9fd8dbe30d7f06299275172cc9671e43f9892e4eb64f8b0072ec2fd0"), looks := false }, kinds := [], alts := [], laidByText := true, laidKinds := [.data, .data, .data, .data, .pinned], laidTests := true, laidLooks := .later }
def GroupTellsUptoCardSaid : Prop := Claim7.holds Tryz.pinned (.plain (OpenSpec.upto groupTellsSpec)) groupTellsUptoCard

/-- THE SECOND FORM's CARD OF 'leveelaw11.GroupCounts'. -/
def groupCountsUptoCard : Claim7 := { stood := { row := groupCountsUptoRow, standIns := [], harness := (true, "42aa57ec9fd8dbe30d7f06299275172cc9671e43f9892e4eb64f8b0072ec2fd0"), looks := false }, kinds := [], alts := [], laidByText := true, laidKinds := [.data, .data, .data, .data, .pinned], laidTests := true, laidLooks := .later }
def GroupCountsUptoCardSaid : Prop := Claim7.holds Tryz.pinned (.plain (OpenSpec.upto groupCountsSpec)) groupCountsUptoCard

/-- THE SECOND FORM's CARD OF 'leveelaw11.GroupEnds'. -/
def groupEndsUptoCard : Claim7 := { stood := { row := groupEndsUptoRow, standIns := [], harness := (true, "42aa57ec9fd8dbe30d7f06299275172cc9671e43f9892e4eb64f8b0072ec2fd0"), looks := false }, kinds := [], alts := [], laidByText := true, laidKinds := [.data, .data, .data, .data, .pinned], laidTests := true, laidLooks := .later }
def GroupEndsUptoCardSaid : Prop := Claim7.holds Tryz.pinned (.plain (OpenSpec.upto groupEndsSpec)) groupEndsUptoCard

/-- THE SECOND FORM's CARD OF 'leveelaw11.GroupOne'. -/
def groupOneUptoCard : Claim7 := { stood := { row := groupOneUptoRow, standIns := [], harness := (true, "42aa57ec9fd8dbe30d7f06299275172cc9671e43f9892e4eb64f8b0072ec2fd0"), looks := false }, kinds := [], alts := [], laidByText := true, laidKinds := [.data, .data, .data, .data, .pinned], laidTests := true, laidLooks := .later }
def GroupOneUptoCardSaid : Prop := Claim7.holds Tryz.pinned (.plain (OpenSpec.upto groupOneSpec)) groupOneUptoCard

/-- THE SECOND FORM's CARD OF 'leveelaw11.GroupParts'. -/
def groupPartsUptoCard : Claim7 := { stood := { row := groupPartsUptoRow, standIns := [], harness := (true, "42aa57ec9fd8dbe30d7f06299275172cc9671e43f9892e4eb64f8b0072ec2fd0"), looks := false }, kinds := [], alts := [], laidByText := true, laidKinds := [.data, .data, .data, .data, .pinned], laidTests := true, laidLooks := .later }
def GroupPartsUptoCardSaid : Prop := Claim7.holds Tryz.pinned (.plain (OpenSpec.upto groupPartsSpec)) groupPartsUptoCard

/-- THE SECOND FORM's CARD OF 'leveelaw14.RegroupTells'. -/
def regroupTellsUptoCard : Claim7 := { stood := { row := regroupTellsUptoRow, standIns := [], harness := (true, "42aa57ec9fd8dbe30d7f06299275172cc9671e43f9892e4eb64f8b0072ec2fd0"), looks := false }, kinds := [], alts := [], laidByText := true, laidKinds := [.data, .data, .data, .data, .pinned], laidTests := true, laidLooks := .later }
def RegroupTellsUptoCardSaid : Prop := Claim7.holds Tryz.pinned (.plain (OpenSpec.upto regroupTellsSpec)) regroupTellsUptoCard

/-- THE SECOND FORM's CARD OF 'leveelaw14.RegroupAdds'. -/
def regroupAddsUptoCard : Claim7 := { stood := { row := regroupAddsUptoRow, standIns := [], harness := (true, "42aa57ec9fd8dbe30d7f06299275172cc9671e43f9892e4eb64f8b0072ec2fd0"), looks := false }, kinds := [], alts := [], laidByText := true, laidKinds := [.data, .data, .data, .data, .pinned], laidTests := true, laidLooks := .later }
def RegroupAddsUptoCardSaid : Prop := Claim7.holds Tryz.pinned (.plain (OpenSpec.upto regroupAddsSpec)) regroupAddsUptoCard

/-- THE SECOND FORM's CARD OF 'leveelaw14.RegroupLimited'. -/
def regroupLimitedUptoCard : Claim7 := { stood := { row := regroupLimitedUptoRow, standIns := [], harness := (true, "42aa57ec9fd8dbe30d7f06299275172cc9671e43f9892e4eb64f8b0072ec2fd0"), looks := false }, kinds := [], alts := [], laidByText := true, laidKinds := [.data, .data, .data, .data, .pinned], laidTests := true, laidLooks := .later }
def RegroupLimitedUptoCardSaid : Prop := Claim7.holds Tryz.pinned (.plain (OpenSpec.upto regroupLimitedSpec)) regroupLimitedUptoCard

/-- THE SECOND FORM's CARD OF 'leveelaw14.RegroupBack'. -/
def regroupBackUptoCard : Claim7 := { stood := { row := regroupBackUptoRow, standIns := [], harness := (true, "42aa57ec9fd8dbe30d7f06299275172cc9671e43f9892e4eb64f8b0072ec2fd0"), looks := false }, kinds := [], alts := [], laidByText := true, laidKinds := [.data, .data, .data, .data, .pinned], laidTests := true, laidLooks := .later }
def RegroupBackUptoCardSaid : Prop := Claim7.holds Tryz.pinned (.plain (OpenSpec.upto regroupBackSpec)) regroupBackUptoCard

/-- THE SECOND FORM's CARD OF 'leveelaw14.RegroupCount'. -/
def regroupCountUptoCard : Claim7 := { stood := { row := regroupCountUptoRow, standIns := [], harness := (true, "42aa57ec9fd8dbe30d7f06299275172cc9671e43f9892e4eb64f8b0072ec2fd0"), looks := false }, kinds := [], alts := [], laidByText := true, laidKinds := [.data, .data, .data, .data, .pinned], laidTests := true, laidLooks := .later }
def RegroupCountUptoCardSaid : Prop := Claim7.holds Tryz.pinned (.plain (OpenSpec.upto regroupCountSpec)) regroupCountUptoCard
end Rows
end Go.Proofs.YtkaljlpbmbfpgaaGreatDoor
