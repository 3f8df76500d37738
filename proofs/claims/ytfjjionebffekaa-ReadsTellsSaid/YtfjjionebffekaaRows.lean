/-
  No cell of these rows narrows 'for every input' (looked for: loops, veiled, ifaces, maps, wideKeys, modest, calm, conditions, laid).
  DERIVED. THE GIVEN ROWS OF THIS SEAT. 10 by the template 'for every input the law returns true; each argument reads behind the call as it read before'; 0 by the template 'total and deterministic' (their statements: YtfjjionebffekaaTotals.lean).
  GIVEN WITH THE SEED: the statements are not yours to turn. If you find one false, say at which input.
  Laid BY PROGRAM, IN A SANDBOX (cutbox-rows.mjs): the forced cells as the released guide's own fill.sh prints them over the translation 7689a22af28b0c7a… (all of the seat's roots in one cut). By AI agents, Wed Nov 11 2026. No macro, syntax, notation, axiom, sorry.
-/
import Derived.Test.YtfjjionebffekaaChecked
import GoSem.Claim
import GoSem.ClaimJoined
import GoSem.ClaimMapViews
import Derived.JoinedTies
import Derived.KernelRfl
namespace Go.Proofs.Ytfjjionebffekaa
/- THE CELL 'sum', in the pinned program and in every row, IS THE sha256 OF THE DUMP (.gsa) THAT YtfjjionebffekaaProg.lean LOADS. Nothing in Lean hashes anything: it is a label: what it is worth is what the hold of that sum in a sandbox is worth. -/
noncomputable def Try.pinned : Pinned := { name := "ytfjjionebffekaa", sum := "7689a22af28b0c7a9c311b252e5b1ad61ce8e96669478bbdd92822c9c535d053", checked := Try.checked }
namespace Rows
def none {H : Type} : Left H := { results := [], args := [] }

/-- 'leveelaw20.ReadsTells': WHATEVER THE INPUT: true; the input reads as it did. -/
def readsTellsSpec : ChangeSpec := { name := "readsTells", fn := fun _ => fun
  | [d1, d2] => { results := [.lit (.bool true)], args := [d1, d2] }
  | _ => none }
def readsTellsRow : OpenClaim := { program := "ytfjjionebffekaa", sum := "7689a22af28b0c7a9c311b252e5b1ad61ce8e96669478bbdd92822c9c535d053", func := "levee/leveelaw20.ReadsTells", spec := "readsTells", inPlace := ["internal/bytealg.abigen_runtime_cmpstring"], unfollowed := true, recurses := true, apart := false }
def ReadsTellsSaid : Prop := readsTellsRow.holds Try.pinned (OpenSpec.ofChange readsTellsSpec)

/-- ITS FALSE NEIGHBOUR: 'it returns false'. Refute it at one input. -/
def readsTellsWrong : ChangeSpec := { name := "readsTells", fn := fun _ => fun
  | [d1, d2] => { results := [.lit (.bool false)], args := [d1, d2] }
  | _ => none }
def ReadsTellsWrongFalsely : Prop := readsTellsRow.holds Try.pinned (OpenSpec.ofChange readsTellsWrong)

/-- 'leveelaw20.ReadsNow': WHATEVER THE INPUT: true; the input reads as it did. -/
def readsNowSpec : ChangeSpec := { name := "readsNow", fn := fun _ => fun
  | [d1, d2] => { results := [.lit (.bool true)], args := [d1, d2] }
  | _ => none }
def readsNowRow : OpenClaim := { program := "ytfjjionebffekaa", sum := "7689a22af28b0c7a9c311b252e5b1ad61ce8e96669478bbdd92822c9c535d053", func := "levee/leveelaw20.ReadsNow", spec := "readsNow", inPlace := ["internal/bytealg.abigen_runtime_cmpstring"], unfollowed := true, recurses := true, apart := false }
def ReadsNowSaid : Prop := readsNowRow.holds Try.pinned (OpenSpec.ofChange readsNowSpec)

/-- ITS FALSE NEIGHBOUR: 'it returns false'. Refute it at one input. -/
def readsNowWrong : ChangeSpec := { name := "readsNow", fn := fun _ => fun
  | [d1, d2] => { results := [.lit (.bool false)], args := [d1, d2] }
  | _ => none }
def ReadsNowWrongFalsely : Prop := readsNowRow.holds Try.pinned (OpenSpec.ofChange readsNowWrong)

/-- 'leveelaw20.ReadsPhantoms': WHATEVER THE INPUT: true; the input reads as it did. -/
def readsPhantomsSpec : ChangeSpec := { name := "readsPhantoms", fn := fun _ => fun
  | [d1, d2, d3] => { results := [.lit (.bool true)], args := [d1, d2, d3] }
  | _ => none }
def readsPhantomsRow : OpenClaim := { program := "ytfjjionebffekaa", sum := "7689a22af28b0c7a9c311b252e5b1ad61ce8e96669478bbdd92822c9c535d053", func := "levee/leveelaw20.ReadsPhantoms", spec := "readsPhantoms", inPlace := ["internal/bytealg.abigen_runtime_cmpstring"], unfollowed := true, recurses := true, apart := false }
def ReadsPhantomsSaid : Prop := readsPhantomsRow.holds Try.pinned (OpenSpec.ofChange readsPhantomsSpec)

/-- ITS FALSE NEIGHBOUR: 'it returns false'. Refute it at one input. -/
def readsPhantomsWrong : ChangeSpec := { name := "readsPhantoms", fn := fun _ => fun
  | [d1, d2, d3] => { results := [.lit (.bool false)], args := [d1, d2, d3] }
  | _ => none }
def ReadsPhantomsWrongFalsely : Prop := readsPhantomsRow.holds Try.pinned (OpenSpec.ofChange readsPhantomsWrong)

/-- 'leveelaw20.ReadsMore': WHATEVER THE INPUT: true; the input reads as it did. -/
def readsMoreSpec : ChangeSpec := { name := "readsMore", fn := fun _ => fun
  | [d1, d2, d3] => { results := [.lit (.bool true)], args := [d1, d2, d3] }
  | _ => none }
def readsMoreRow : OpenClaim := { program := "ytfjjionebffekaa", sum := "7689a22af28b0c7a9c311b252e5b1ad61ce8e96669478bbdd92822c9c535d053", func := "levee/leveelaw20.ReadsMore", spec := "readsMore", inPlace := ["internal/bytealg.abigen_runtime_cmpstring"], unfollowed := true, recurses := true, apart := false }
def ReadsMoreSaid : Prop := readsMoreRow.holds Try.pinned (OpenSpec.ofChange readsMoreSpec)

/-- ITS FALSE NEIGHBOUR: 'it returns false'. Refute it at one input. -/
def readsMoreWrong : ChangeSpec := { name := "readsMore", fn := fun _ => fun
  | [d1, d2, d3] => { results := [.lit (.bool false)], args := [d1, d2, d3] }
  | _ => none }
def ReadsMoreWrongFalsely : Prop := readsMoreRow.holds Try.pinned (OpenSpec.ofChange readsMoreWrong)

/-- 'leveelaw20.ReadsCut': WHATEVER THE INPUT: true; the input reads as it did. -/
def readsCutSpec : ChangeSpec := { name := "readsCut", fn := fun _ => fun
  | [d1, d2] => { results := [.lit (.bool true)], args := [d1, d2] }
  | _ => none }
def readsCutRow : OpenClaim := { program := "ytfjjionebffekaa", sum := "7689a22af28b0c7a9c311b252e5b1ad61ce8e96669478bbdd92822c9c535d053", func := "levee/leveelaw20.ReadsCut", spec := "readsCut", inPlace := ["internal/bytealg.abigen_runtime_cmpstring"], unfollowed := true, recurses := true, apart := false }
def ReadsCutSaid : Prop := readsCutRow.holds Try.pinned (OpenSpec.ofChange readsCutSpec)

/-- ITS FALSE NEIGHBOUR: 'it returns false'. Refute it at one input. -/
def readsCutWrong : ChangeSpec := { name := "readsCut", fn := fun _ => fun
  | [d1, d2] => { results := [.lit (.bool false)], args := [d1, d2] }
  | _ => none }
def ReadsCutWrongFalsely : Prop := readsCutRow.holds Try.pinned (OpenSpec.ofChange readsCutWrong)

/-- 'leveelaw16.RelTells': WHATEVER THE INPUT: true; the input reads as it did. -/
def relTellsSpec : ChangeSpec := { name := "relTells", fn := fun _ => fun
  | [d1, d2] => { results := [.lit (.bool true)], args := [d1, d2] }
  | _ => none }
def relTellsRow : OpenClaim := { program := "ytfjjionebffekaa", sum := "7689a22af28b0c7a9c311b252e5b1ad61ce8e96669478bbdd92822c9c535d053", func := "levee/leveelaw16.RelTells", spec := "relTells", inPlace := ["internal/bytealg.abigen_runtime_cmpstring", "slices.overlaps[levee/api.Rec]"], unfollowed := true, recurses := true, apart := false }
def RelTellsSaid : Prop := relTellsRow.holds Try.pinned (OpenSpec.ofChange relTellsSpec)

/-- ITS FALSE NEIGHBOUR: 'it returns false'. Refute it at one input. -/
def relTellsWrong : ChangeSpec := { name := "relTells", fn := fun _ => fun
  | [d1, d2] => { results := [.lit (.bool false)], args := [d1, d2] }
  | _ => none }
def RelTellsWrongFalsely : Prop := relTellsRow.holds Try.pinned (OpenSpec.ofChange relTellsWrong)

/-- 'leveelaw16.RelPuts': WHATEVER THE INPUT: true; the input reads as it did. -/
def relPutsSpec : ChangeSpec := { name := "relPuts", fn := fun _ => fun
  | [d1, d2] => { results := [.lit (.bool true)], args := [d1, d2] }
  | _ => none }
def relPutsRow : OpenClaim := { program := "ytfjjionebffekaa", sum := "7689a22af28b0c7a9c311b252e5b1ad61ce8e96669478bbdd92822c9c535d053", func := "levee/leveelaw16.RelPuts", spec := "relPuts", inPlace := ["internal/bytealg.abigen_runtime_cmpstring", "slices.overlaps[levee/api.Rec]"], unfollowed := true, recurses := true, apart := false }
def RelPutsSaid : Prop := relPutsRow.holds Try.pinned (OpenSpec.ofChange relPutsSpec)

/-- ITS FALSE NEIGHBOUR: 'it returns false'. Refute it at one input. -/
def relPutsWrong : ChangeSpec := { name := "relPuts", fn := fun _ => fun
  | [d1, d2] => { results := [.lit (.bool false)], args := [d1, d2] }
  | _ => none }
def RelPutsWrongFalsely : Prop := relPutsRow.holds Try.pinned (OpenSpec.ofChange relPutsWrong)

/-- 'leveelaw16.RelScans': WHATEVER THE INPUT: true; the input reads as it did. -/
def relScansSpec : ChangeSpec := { name := "relScans", fn := fun _ => fun
  | [d1, d2] => { results := [.lit (.bool true)], args := [d1, d2] }
  | _ => none }
def relScansRow : OpenClaim := { program := "ytfjjionebffekaa", sum := "7689a22af28b0c7a9c311b252e5b1ad61ce8e96669478bbdd92822c9c535d053", func := "levee/leveelaw16.RelScans", spec := "relScans", inPlace := ["internal/bytealg.abigen_runtime_cmpstring", "slices.overlaps[levee/api.Rec]"], unfollowed := true, recurses := true, apart := false }
def RelScansSaid : Prop := relScansRow.holds Try.pinned (OpenSpec.ofChange relScansSpec)

/-- ITS FALSE NEIGHBOUR: 'it returns false'. Refute it at one input. -/
def relScansWrong : ChangeSpec := { name := "relScans", fn := fun _ => fun
  | [d1, d2] => { results := [.lit (.bool false)], args := [d1, d2] }
  | _ => none }
def RelScansWrongFalsely : Prop := relScansRow.holds Try.pinned (OpenSpec.ofChange relScansWrong)

/-- 'leveelaw16.RelTwice': WHATEVER THE INPUT: true; the input reads as it did. -/
def relTwiceSpec : ChangeSpec := { name := "relTwice", fn := fun _ => fun
  | [d1, d2, d3] => { results := [.lit (.bool true)], args := [d1, d2, d3] }
  | _ => none }
def relTwiceRow : OpenClaim := { program := "ytfjjionebffekaa", sum := "7689a22af28b0c7a9c311b252e5b1ad61ce8e96669478bbdd92822c9c535d053", func := "levee/leveelaw16.RelTwice", spec := "relTwice", inPlace := ["internal/bytealg.abigen_runtime_cmpstring", "slices.overlaps[levee/api.Rec]"], unfollowed := true, recurses := true, apart := false }
def RelTwiceSaid : Prop := relTwiceRow.holds Try.pinned (OpenSpec.ofChange relTwiceSpec)

/-- ITS FALSE NEIGHBOUR: 'it returns false'. Refute it at one input. -/
def relTwiceWrong : ChangeSpec := { name := "relTwice", fn := fun _ => fun
  | [d1, d2, d3] => { results := [.lit (.bool false)], args := [d1, d2, d3] }
  | _ => none }
def RelTwiceWrongFalsely : Prop := relTwiceRow.holds Try.pinned (OpenSpec.ofChange relTwiceWrong)

/-- 'leveelaw16.RelMany': WHATEVER THE INPUT: true; the input reads as it did. -/
def relManySpec : ChangeSpec := { name := "relMany", fn := fun _ => fun
  | [d1, d2] => { results := [.lit (.bool true)], args := [d1, d2] }
  | _ => none }
def relManyRow : OpenClaim := { program := "ytfjjionebffekaa", sum := "7689a22af28b0c7a9c311b252e5b1ad61ce8e96669478bbdd92822c9c535d053", func := "levee/leveelaw16.RelMany", spec := "relMany", inPlace := ["internal/bytealg.abigen_runtime_cmpstring", "slices.overlaps[levee/api.Rec]"], unfollowed := true, recurses := true, apart := false }
def RelManySaid : Prop := relManyRow.holds Try.pinned (OpenSpec.ofChange relManySpec)

/-- ITS FALSE NEIGHBOUR: 'it returns false'. Refute it at one input. -/
def relManyWrong : ChangeSpec := { name := "relMany", fn := fun _ => fun
  | [d1, d2] => { results := [.lit (.bool false)], args := [d1, d2] }
  | _ => none }
def RelManyWrongFalsely : Prop := relManyRow.holds Try.pinned (OpenSpec.ofChange relManyWrong)

/- THE SECOND FORM. 'bulk': how many values and letters a reading holds, each counted each time it is reached (what is shared counts as often as it is met; a slice's spare places count too). A statement '..UptoSaid' is the law's where the arguments, and the package variables that the reading takes, are together of bulk at most 1048576: NARROWER than '..Said'. Prove '..Said' where nothing that the law and all that it calls make is longer than what came in: it says more and counts as full. Else prove '..UptoSaid'. A law counts once. -/
mutual
def uptoBulk {H : Type} : DataW H → Nat
  | .lit (.string bytes) => bytes.length + 1
  | .lit _ => 1
  | .nil => 1
  | .ptr d => uptoBulk d + 1
  | .slice elems spare => uptoBulkAll elems + uptoBulkAll spare + 1
  | .agg parts => uptoBulkAll parts + 1
  | .iface _ d => uptoBulk d + 1
  | .map entries => uptoBulkEntries entries + 1
  | .held _ => 1
def uptoBulkAll {H : Type} : List (DataW H) → Nat
  | [] => 0
  | d :: r => uptoBulk d + uptoBulkAll r
def uptoBulkEntries {H : Type} : List (Lit × DataW H) → Nat
  | [] => 0
  | x :: r => uptoBulkEntry x + uptoBulkEntries r
def uptoBulkEntry {H : Type} : Lit × DataW H → Nat
  | (.string bytes, d) => bytes.length + uptoBulk d + 1
  | (_, d) => uptoBulk d + 1
 end
def uptoSmall : (H : Type) → List (DataW H) → Bool := fun _ ds => decide (uptoBulkAll ds ≤ 1048576)
def OpenSpec.upto (s : _root_.Go.ChangeSpec) : _root_.Go.OpenSpec := { _root_.Go.OpenSpec.ofChange s with cond := some uptoSmall }

/-- 'leveelaw20.ReadsTells', WHERE WHAT IT READS IS OF BULK AT MOST 1048576: true; the input reads as it did. -/
def readsTellsUptoRow : OpenClaim := { program := "ytfjjionebffekaa", sum := "7689a22af28b0c7a9c311b252e5b1ad61ce8e96669478bbdd92822c9c535d053", func := "levee/leveelaw20.ReadsTells", spec := "readsTells", inPlace := ["internal/bytealg.abigen_runtime_cmpstring"], unfollowed := true, recurses := true, apart := false, narrowed := true }
def ReadsTellsUptoSaid : Prop := readsTellsUptoRow.holds Try.pinned (OpenSpec.upto readsTellsSpec)

/-- 'leveelaw20.ReadsNow', WHERE WHAT IT READS IS OF BULK AT MOST 1048576: true; the input reads as it did. -/
def readsNowUptoRow : OpenClaim := { program := "ytfjjionebffekaa", sum := "7689a22af28b0c7a9c311b252e5b1ad61ce8e96669478bbdd92822c9c535d053", func := "levee/leveelaw20.ReadsNow", spec := "readsNow", inPlace := ["internal/bytealg.abigen_runtime_cmpstring"], unfollowed := true, recurses := true, apart := false, narrowed := true }
def ReadsNowUptoSaid : Prop := readsNowUptoRow.holds Try.pinned (OpenSpec.upto readsNowSpec)

/-- 'leveelaw20.ReadsPhantoms', WHERE WHAT IT READS IS OF BULK AT MOST 1048576: true; the input reads as it did. -/
def readsPhantomsUptoRow : OpenClaim := { program := "ytfjjionebffekaa", sum := "7689a22af28b0c7a9c311b252e5b1ad61ce8e96669478bbdd92822c9c535d053", func := "levee/leveelaw20.ReadsPhantoms", spec := "readsPhantoms", inPlace := ["internal/bytealg.abigen_runtime_cmpstring"], unfollowed := true, recurses := true, apart := false, narrowed := true }
def ReadsPhantomsUptoSaid : Prop := readsPhantomsUptoRow.holds Try.pinned (OpenSpec.upto readsPhantomsSpec)

/-- 'leveelaw20.ReadsMore', WHERE WHAT IT READS IS OF BULK AT MOST 1048576: true; the input reads as it did. -/
def readsMoreUptoRow : OpenClaim := { program := "ytfjjionebffekaa", sum := "7689a22af28b0c7a9c311b252e5b1ad61ce8e96669478bbdd92822c9c535d053", func := "levee/leveelaw20.ReadsMore", spec := "readsMore", inPlace := ["internal/bytealg.abigen_runtime_cmpstring"], unfollowed := true, recurses := true, apart := false, narrowed := true }
def ReadsMoreUptoSaid : Prop := readsMoreUptoRow.holds Try.pinned (OpenSpec.upto readsMoreSpec)

/-- 'leveelaw20.ReadsCut', WHERE WHAT IT READS IS OF BULK AT MOST 1048576: true; the input reads as it did. -/
def readsCutUptoRow : OpenClaim := { program := "ytfjjionebffekaa", sum := "7689a22af28b0c7a9c311b252e5b1ad61ce8e96669478bbdd92822c9c535d053", func := "levee/leveelaw20.ReadsCut", spec := "readsCut", inPlace := ["internal/bytealg.abigen_runtime_cmpstring"], unfollowed := true, recurses := true, apart := false, narrowed := true }
def ReadsCutUptoSaid : Prop := readsCutUptoRow.holds Try.pinned (OpenSpec.upto readsCutSpec)

/-- 'leveelaw16.RelTells', WHERE WHAT IT READS IS OF BULK AT MOST 1048576: true; the input reads as it did. -/
def relTellsUptoRow : OpenClaim := { program := "ytfjjionebffekaa", sum := "7689a22af28b0c7a9c311b252e5b1ad61ce8e96669478bbdd92822c9c535d053", func := "levee/leveelaw16.RelTells", spec := "relTells", inPlace := ["internal/bytealg.abigen_runtime_cmpstring", "slices.overlaps[levee/api.Rec]"], unfollowed := true, recurses := true, apart := false, narrowed := true }
def RelTellsUptoSaid : Prop := relTellsUptoRow.holds Try.pinned (OpenSpec.upto relTellsSpec)

/-- 'leveelaw16.RelPuts', WHERE WHAT IT READS IS OF BULK AT MOST 1048576: true; the input reads as it did. -/
def relPutsUptoRow : OpenClaim := { program := "ytfjjionebffekaa", sum := "7689a22af28b0c7a9c311b252e5b1ad61ce8e96669478bbdd92822c9c535d053", func := "levee/leveelaw16.RelPuts", spec := "relPuts", inPlace := ["internal/bytealg.abigen_runtime_cmpstring", "slices.overlaps[levee/api.Rec]"], unfollowed := true, recurses := true, apart := false, narrowed := true }
def RelPutsUptoSaid : Prop := relPutsUptoRow.holds Try.pinned (OpenSpec.upto relPutsSpec)

/-- 'leveelaw16.RelScans', WHERE WHAT IT READS IS OF BULK AT MOST 1048576: true; the input reads as it did. -/
def relScansUptoRow : OpenClaim := { program := "ytfjjionebffekaa", sum := "7689a22af28b0c7a9c311b252e5b1ad61ce8e96669478bbdd92822c9c535d053", func := "levee/leveelaw16.RelScans", spec := "relScans", inPlace := ["internal/bytealg.abigen_runtime_cmpstring", "slices.overlaps[levee/api.Rec]"], unfollowed := true, recurses := true, apart := false, narrowed := true }
def RelScansUptoSaid : Prop := relScansUptoRow.holds Try.pinned (OpenSpec.upto relScansSpec)

/-- 'leveelaw16.RelTwice', WHERE WHAT IT READS IS OF BULK AT MOST 1048576: true; the input reads as it did. -/
def relTwiceUptoRow : OpenClaim := { program := "ytfjjionebffekaa", sum := "7689a22af28b0c7a9c311b252e5b1ad61ce8e96669478bbdd92822c9c535d053", func := "levee/leveelaw16.RelTwice", spec := "relTwice", inPlace := ["internal/bytealg.abigen_runtime_cmpstring", "slices.overlaps[levee/api.Rec]"], unfollowed := true, recurses := true, apart := false, narrowed := true }
def RelTwiceUptoSaid : Prop := relTwiceUptoRow.holds Try.pinned (OpenSpec.upto relTwiceSpec)

/-- 'leveelaw16.RelMany', WHERE WHAT IT READS IS OF BULK AT MOST 1048576: true; the input reads as it did. -/
def relManyUptoRow : OpenClaim := { program := "ytfjjionebffekaa", sum := "7689a22af28b0c7a9c311b252e5b1ad61ce8e96669478bbdd92822c9c535d053", func := "levee/leveelaw16.RelMany", spec := "relMany", inPlace := ["internal/bytealg.abigen_runtime_cmpstring", "slices.overlaps[levee/api.Rec]"], unfollowed := true, recurses := true, apart := false, narrowed := true }
def RelManyUptoSaid : Prop := relManyUptoRow.holds Try.pinned (OpenSpec.upto relManySpec)

end Rows
end Go.Proofs.Ytfjjionebffekaa
