/-
  No cell of these rows narrows 'for every input' (looked for: loops, veiled, ifaces, maps, wideKeys, modest, calm, conditions, laid).
  DERIVED. THE GIVEN ROWS OF THIS SEAT. 5 by the template 'for every input the law returns true; each argument reads behind the call as it read before'; 0 by the template 'total and deterministic' (their statements: YtnnogckknlgeiaaTotals.lean).
  GIVEN WITH THE SEED: the statements are not yours to turn. If you find one false, say at which input.
  Laid BY PROGRAM, IN A SANDBOX (cutbox-rows.mjs): the forced cells as the released guide's own fill.sh prints them over the translation 0179775279d8d8a8… (all of the seat's roots in one cut). By AI agents, Wed Nov 11 2026. No macro, syntax, notation, axiom, sorry.
-/
import Derived.Test.YtnnogckknlgeiaaChecked
import GoSem.Claim
import GoSem.ClaimJoined
import GoSem.ClaimMapViews
import Derived.JoinedTies
import Derived.KernelRfl
namespace Go.Proofs.Ytnnogckknlgeiaa
/- THE CELL 'sum', in the pinned program and in every row, IS THE sha256 OF THE DUMP (.gsa) THAT YtnnogckknlgeiaaProg.lean LOADS. Nothing in Lean hashes anything: it is a label: what it is worth is what the hold of that sum in a sandbox is worth. -/
noncomputable def Try.pinned : Pinned := { name := "ytnnogckknlgeiaa", sum := "0179775279d8d8a815e4e98614901e16a3746d59e10a66de767887997cf45c3f", checked := Try.checked }
namespace Rows
def none {H : Type} : Left H := { results := [], args := [] }

/-- 'leveelaw02.KeyTells': WHATEVER THE INPUT: true; the input reads as it did. -/
def keyTellsSpec : ChangeSpec := { name := "keyTells", fn := fun _ => fun
  | [d1, d2, d3] => { results := [.lit (.bool true)], args := [d1, d2, d3] }
  | _ => none }
def keyTellsRow : OpenClaim := { program := "ytnnogckknlgeiaa", sum := "0179775279d8d8a815e4e98614901e16a3746d59e10a66de767887997cf45c3f", func := "levee/leveelaw02.KeyTells", spec := "keyTells", inPlace := ["internal/bytealg.abigen_runtime_cmpstring"], unfollowed := true, recurses := true, apart := false }
def KeyTellsSaid : Prop := keyTellsRow.holds Try.pinned (OpenSpec.ofChange keyTellsSpec)

/-- ITS FALSE NEIGHBOUR: 'it returns false'. Refute it at one input. -/
def keyTellsWrong : ChangeSpec := { name := "keyTells", fn := fun _ => fun
  | [d1, d2, d3] => { results := [.lit (.bool false)], args := [d1, d2, d3] }
  | _ => none }
def KeyTellsWrongFalsely : Prop := keyTellsRow.holds Try.pinned (OpenSpec.ofChange keyTellsWrong)

/-- 'leveelaw02.KeyRises': WHATEVER THE INPUT: true; the input reads as it did. -/
def keyRisesSpec : ChangeSpec := { name := "keyRises", fn := fun _ => fun
  | [d1, d2] => { results := [.lit (.bool true)], args := [d1, d2] }
  | _ => none }
def keyRisesRow : OpenClaim := { program := "ytnnogckknlgeiaa", sum := "0179775279d8d8a815e4e98614901e16a3746d59e10a66de767887997cf45c3f", func := "levee/leveelaw02.KeyRises", spec := "keyRises", inPlace := ["internal/bytealg.abigen_runtime_cmpstring"], unfollowed := true, recurses := true, apart := false }
def KeyRisesSaid : Prop := keyRisesRow.holds Try.pinned (OpenSpec.ofChange keyRisesSpec)

/-- ITS FALSE NEIGHBOUR: 'it returns false'. Refute it at one input. -/
def keyRisesWrong : ChangeSpec := { name := "keyRises", fn := fun _ => fun
  | [d1, d2] => { results := [.lit (.bool false)], args := [d1, d2] }
  | _ => none }
def KeyRisesWrongFalsely : Prop := keyRisesRow.holds Try.pinned (OpenSpec.ofChange keyRisesWrong)

/-- 'leveelaw02.KeyBack': WHATEVER THE INPUT: true; the input reads as it did. -/
def keyBackSpec : ChangeSpec := { name := "keyBack", fn := fun _ => fun
  | [d1, d2, d3] => { results := [.lit (.bool true)], args := [d1, d2, d3] }
  | _ => none }
def keyBackRow : OpenClaim := { program := "ytnnogckknlgeiaa", sum := "0179775279d8d8a815e4e98614901e16a3746d59e10a66de767887997cf45c3f", func := "levee/leveelaw02.KeyBack", spec := "keyBack", inPlace := ["internal/bytealg.abigen_runtime_cmpstring"], unfollowed := true, recurses := true, apart := false }
def KeyBackSaid : Prop := keyBackRow.holds Try.pinned (OpenSpec.ofChange keyBackSpec)

/-- ITS FALSE NEIGHBOUR: 'it returns false'. Refute it at one input. -/
def keyBackWrong : ChangeSpec := { name := "keyBack", fn := fun _ => fun
  | [d1, d2, d3] => { results := [.lit (.bool false)], args := [d1, d2, d3] }
  | _ => none }
def KeyBackWrongFalsely : Prop := keyBackRow.holds Try.pinned (OpenSpec.ofChange keyBackWrong)

/-- 'leveelaw02.KeyApart': WHATEVER THE INPUT: true; the input reads as it did. -/
def keyApartSpec : ChangeSpec := { name := "keyApart", fn := fun _ => fun
  | [d1, d2, d3] => { results := [.lit (.bool true)], args := [d1, d2, d3] }
  | _ => none }
def keyApartRow : OpenClaim := { program := "ytnnogckknlgeiaa", sum := "0179775279d8d8a815e4e98614901e16a3746d59e10a66de767887997cf45c3f", func := "levee/leveelaw02.KeyApart", spec := "keyApart", inPlace := ["internal/bytealg.abigen_runtime_cmpstring"], unfollowed := true, recurses := true, apart := false }
def KeyApartSaid : Prop := keyApartRow.holds Try.pinned (OpenSpec.ofChange keyApartSpec)

/-- ITS FALSE NEIGHBOUR: 'it returns false'. Refute it at one input. -/
def keyApartWrong : ChangeSpec := { name := "keyApart", fn := fun _ => fun
  | [d1, d2, d3] => { results := [.lit (.bool false)], args := [d1, d2, d3] }
  | _ => none }
def KeyApartWrongFalsely : Prop := keyApartRow.holds Try.pinned (OpenSpec.ofChange keyApartWrong)

/-- 'leveelaw02.KeySame': WHATEVER THE INPUT: true; the input reads as it did. -/
def keySameSpec : ChangeSpec := { name := "keySame", fn := fun _ => fun
  | [d1, d2, d3] => { results := [.lit (.bool true)], args := [d1, d2, d3] }
  | _ => none }
def keySameRow : OpenClaim := { program := "ytnnogckknlgeiaa", sum := "0179775279d8d8a815e4e98614901e16a3746d59e10a66de767887997cf45c3f", func := "levee/leveelaw02.KeySame", spec := "keySame", inPlace := ["internal/bytealg.abigen_runtime_cmpstring"], unfollowed := true, recurses := true, apart := false }
def KeySameSaid : Prop := keySameRow.holds Try.pinned (OpenSpec.ofChange keySameSpec)

/-- ITS FALSE NEIGHBOUR: 'it returns false'. Refute it at one input. -/
def keySameWrong : ChangeSpec := { name := "keySame", fn := fun _ => fun
  | [d1, d2, d3] => { results := [.lit (.bool false)], args := [d1, d2, d3] }
  | _ => none }
def KeySameWrongFalsely : Prop := keySameRow.holds Try.pinned (OpenSpec.ofChange keySameWrong)

/- THE SECOND FORM. 'bulk': how many values and letters a reading holds, each counted each time it is reached (what is shared counts as often as it is met; a slice's spare places count too). A statement '..UptoSaid' is the law's where the arguments, and the package variables that the reading takes, are together of bulk at most 1048576: NARROWER than '..Said'. Prove '..Said' where nothing that the law and all that it calls make is longer than what came in: it says more and counts as full. Else prove '..UptoSaid'. A law counts once. -/
mutual
def uptoBulk {H : Type} : DataW H → Nat
  | .lit (.string bytes) => bytes.length + 1
  | .lit _ => 1
  | .nil => 1
  | .ptr d => uptoBulk d + 1
  | .slice elems spare => uptoBulkAll elems + uptoBulkAll spare + 1
  | .agg parts => uptoBulkAll parts + 1
  | .iface _ d => uptoBulk d + 1
  | .map entries => uptoBulkEntries entries + 1
  | .held _ => 1
def uptoBulkAll {H : Type} : List (DataW H) → Nat
  | [] => 0
  | d :: r => uptoBulk d + uptoBulkAll r
def uptoBulkEntries {H : Type} : List (Lit × DataW H) → Nat
  | [] => 0
  | x :: r => uptoBulkEntry x + uptoBulkEntries r
def uptoBulkEntry {H : Type} : Lit × DataW H → Nat
  | (.string bytes, d) => bytes.length + uptoBulk d + 1
  | (_, d) => uptoBulk d + 1
 end
def uptoSmall : (H : Type) → List (DataW H) → Bool := fun _ ds => decide (uptoBulkAll ds ≤ 1048576)
def OpenSpec.upto (s : _root_.Go.ChangeSpec) : _root_.Go.OpenSpec := { _root_.Go.OpenSpec.ofChange s with cond := some uptoSmall }

/-- 'leveelaw02.KeyTells', WHERE WHAT IT READS IS OF BULK AT MOST 1048576: true; the input reads as it did. -/
def keyTellsUptoRow : OpenClaim := { program := "ytnnogckknlgeiaa", sum := "0179775279d8d8a815e4e98614901e16a3746d59e10a66de767887997cf45c3f", func := "levee/leveelaw02.KeyTells", spec := "keyTells", inPlace := ["internal/bytealg.abigen_runtime_cmpstring"], unfollowed := true, recurses := true, apart := false, narrowed := true }
def KeyTellsUptoSaid : Prop := keyTellsUptoRow.holds Try.pinned (OpenSpec.upto keyTellsSpec)

/-- 'leveelaw02.KeyRises', WHERE WHAT IT READS IS OF BULK AT MOST 1048576: true; the input reads as it did. -/
def keyRisesUptoRow : OpenClaim := { program := "ytnnogckknlgeiaa", sum := "0179775279d8d8a815e4e98614901e16a3746d59e10a66de767887997cf45c3f", func := "levee/leveelaw02.KeyRises", spec := "keyRises", inPlace := ["internal/bytealg.abigen_runtime_cmpstring"], unfollowed := true, recurses := true, apart := false, narrowed := true }
def KeyRisesUptoSaid : Prop := keyRisesUptoRow.holds Try.pinned (OpenSpec.upto keyRisesSpec)

/-- 'leveelaw02.KeyBack', WHERE WHAT IT READS IS OF BULK AT MOST 1048576: true; the input reads as it did. -/
def keyBackUptoRow : OpenClaim := { program := "ytnnogckknlgeiaa", sum := "0179775279d8d8a815e4e98614901e16a3746d59e10a66de767887997cf45c3f", func := "levee/leveelaw02.KeyBack", spec := "keyBack", inPlace := ["internal/bytealg.abigen_runtime_cmpstring"], unfollowed := true, recurses := true, apart := false, narrowed := true }
def KeyBackUptoSaid : Prop := keyBackUptoRow.holds Try.pinned (OpenSpec.upto keyBackSpec)

/-- 'leveelaw02.KeyApart', WHERE WHAT IT READS IS OF BULK AT MOST 1048576: true; the input reads as it did. -/
def keyApartUptoRow : OpenClaim := { program := "ytnnogckknlgeiaa", sum := "0179775279d8d8a815e4e98614901e16a3746d59e10a66de767887997cf45c3f", func := "levee/leveelaw02.KeyApart", spec := "keyApart", inPlace := ["internal/bytealg.abigen_runtime_cmpstring"], unfollowed := true, recurses := true, apart := false, narrowed := true }
def KeyApartUptoSaid : Prop := keyApartUptoRow.holds Try.pinned (OpenSpec.upto keyApartSpec)

/-- 'leveelaw02.KeySame', WHERE WHAT IT READS IS OF BULK AT MOST 1048576: true; the input reads as it did. -/
def keySameUptoRow : OpenClaim := { program := "ytnnogckknlgeiaa", sum := "0179775279d8d8a815e4e98614901e16a3746d59e10a66de767887997cf45c3f", func := "levee/leveelaw02.KeySame", spec := "keySame", inPlace := ["internal/bytealg.abigen_runtime_cmpstring"], unfollowed := true, recurses := true, apart := false, narrowed := true }
def KeySameUptoSaid : Prop := keySameUptoRow.holds Try.pinned (OpenSpec.upto keySameSpec)

end Rows
end Go.Proofs.Ytnnogckknlgeiaa
