/-
  No cell of these rows narrows 'for every input' (looked for: loops, veiled, ifaces, maps, wideKeys, modest, calm, conditions, laid).
  DERIVED. THE GIVEN ROWS OF THIS SEAT. 5 by the template 'for every input the law returns true; each argument reads behind the call as it read before'; 0 by the template 'total and deterministic' (their statements: YtinnnhiaamjjlaaTotals.lean).
  GIVEN WITH THE SEED: the statements are not yours to turn. If you find one false, say at which input.
  Laid BY PROGRAM, IN A SANDBOX (cutbox-rows.mjs): the forced cells as the released guide's own fill.sh prints them over the translation b1d29952ad7e9633… (all of the seat's roots in one cut). By AI agents, Wed Nov 11 2026. No macro, syntax, notation, axiom, sorry.
-/
import Derived.Test.YtinnnhiaamjjlaaChecked
import GoSem.Claim
import GoSem.ClaimJoined
import GoSem.ClaimMapViews
import Derived.JoinedTies
import Derived.KernelRfl
namespace Go.Proofs.Ytinnnhiaamjjlaa
/- THE CELL 'sum', in the pinned program and in every row, IS THE sha256 OF THE DUMP (.gsa) THAT YtinnnhiaamjjlaaProg.lean LOADS. Nothing in Lean hashes anything: it is a label: what it is worth is what the hold of that sum in a sandbox is worth. -/
noncomputable def Try.pinned : Pinned := { name := "ytinnnhiaamjjlaa", sum := "b1d29952ad7e9633c26c2894776c56a880acaea4356ff73e2ec0a33f5eefe1a9", checked := Try.checked }
namespace Rows
def none {H : Type} : Left H := { results := [], args := [] }

/-- 'leveelaw16.RelTells': WHATEVER THE INPUT: true; the input reads as it did. -/
def relTellsSpec : ChangeSpec := { name := "relTells", fn := fun _ => fun
  | [d1, d2] => { results := [.lit (.bool true)], args := [d1, d2] }
  | _ => none }
def relTellsRow : OpenClaim := { program := "ytinnnhiaamjjlaa", sum := "b1d29952ad7e9633c26c2894776c56a880acaea4356ff73e2ec0a33f5eefe1a9", func := "levee/leveelaw16.RelTells", spec := "relTells", inPlace := ["internal/bytealg.abigen_runtime_cmpstring", "slices.overlaps[levee/api.Rec]"], unfollowed := true, recurses := true, apart := false }
def RelTellsSaid : Prop := relTellsRow.holds Try.pinned (OpenSpec.ofChange relTellsSpec)

/-- ITS FALSE NEIGHBOUR: 'it returns false'. Refute it at one input. -/
def relTellsWrong : ChangeSpec := { name := "relTells", fn := fun _ => fun
  | [d1, d2] => { results := [.lit (.bool false)], args := [d1, d2] }
  | _ => none }
def RelTellsWrongFalsely : Prop := relTellsRow.holds Try.pinned (OpenSpec.ofChange relTellsWrong)

/-- 'leveelaw16.RelPuts': WHATEVER THE INPUT: true; the input reads as it did. -/
def relPutsSpec : ChangeSpec := { name := "relPuts", fn := fun _ => fun
  | [d1, d2] => { results := [.lit (.bool true)], args := [d1, d2] }
  | _ => none }
def relPutsRow : OpenClaim := { program := "ytinnnhiaamjjlaa", sum := "b1d29952ad7e9633c26c2894776c56a880acaea4356ff73e2ec0a33f5eefe1a9", func := "levee/leveelaw16.RelPuts", spec := "relPuts", inPlace := ["internal/bytealg.abigen_runtime_cmpstring", "slices.overlaps[levee/api.Rec]"], unfollowed := true, recurses := true, apart := false }
def RelPutsSaid : Prop := relPutsRow.holds Try.pinned (OpenSpec.ofChange relPutsSpec)

/-- ITS FALSE NEIGHBOUR: 'it returns false'. Refute it at one input. -/
def relPutsWrong : ChangeSpec := { name := "relPuts", fn := fun _ => fun
  | [d1, d2] => { results := [.lit (.bool false)], args := [d1, d2] }
  | _ => none }
def RelPutsWrongFalsely : Prop := relPutsRow.holds Try.pinned (OpenSpec.ofChange relPutsWrong)

/-- 'leveelaw16.RelScans': WHATEVER THE INPUT: true; the input reads as it did. -/
def relScansSpec : ChangeSpec := { name := "relScans", fn := fun _ => fun
  | [d1, d2] => { results := [.lit (.bool true)], args := [d1, d2] }
  | _ => none }
def relScansRow : OpenClaim := { program := "ytinnnhiaamjjlaa", sum := "b1d29952ad7e9633c26c2894776c56a880acaea4356ff73e2ec0a33f5eefe1a9", func := "levee/leveelaw16.RelScans", spec := "relScans", inPlace := ["internal/bytealg.abigen_runtime_cmpstring", "slices.overlaps[levee/api.Rec]"], unfollowed := true, recurses := true, apart := false }
def RelScansSaid : Prop := relScansRow.holds Try.pinned (OpenSpec.ofChange relScansSpec)

/-- ITS FALSE NEIGHBOUR: 'it returns false'. Refute it at one input. -/
def relScansWrong : ChangeSpec := { name := "relScans", fn := fun _ => fun
  | [d1, d2] => { results := [.lit (.bool false)], args := [d1, d2] }
  | _ => none }
def RelScansWrongFalsely : Prop := relScansRow.holds Try.pinned (OpenSpec.ofChange relScansWrong)

/-- 'leveelaw16.RelTwice': WHATEVER THE INPUT: true; the input reads as it did. -/
def relTwiceSpec : ChangeSpec := { name := "relTwice", fn := fun _ => fun
  | [d1, d2, d3] => { results := [.lit (.bool true)], args := [d1, d2, d3] }
  | _ => none }
def relTwiceRow : OpenClaim := { program := "ytinnnhiaamjjlaa", sum := "b1d29952ad7e9633c26c2894776c56a880acaea4356ff73e2ec0a33f5eefe1a9", func := "levee/leveelaw16.RelTwice", spec := "relTwice", inPlace := ["internal/bytealg.abigen_runtime_cmpstring", "slices.overlaps[levee/api.Rec]"], unfollowed := true, recurses := true, apart := false }
def RelTwiceSaid : Prop := relTwiceRow.holds Try.pinned (OpenSpec.ofChange relTwiceSpec)

/-- ITS FALSE NEIGHBOUR: 'it returns false'. Refute it at one input. -/
def relTwiceWrong : ChangeSpec := { name := "relTwice", fn := fun _ => fun
  | [d1, d2, d3] => { results := [.lit (.bool false)], args := [d1, d2, d3] }
  | _ => none }
def RelTwiceWrongFalsely : Prop := relTwiceRow.holds Try.pinned (OpenSpec.ofChange relTwiceWrong)

/-- 'leveelaw16.RelMany': WHATEVER THE INPUT: true; the input reads as it did. -/
def relManySpec : ChangeSpec := { name := "relMany", fn := fun _ => fun
  | [d1, d2] => { results := [.lit (.bool true)], args := [d1, d2] }
  | _ => none }
def relManyRow : OpenClaim := { program := "ytinnnhiaamjjlaa", sum := "b1d29952ad7e9633c26c2894776c56a880acaea4356ff73e2ec0a33f5eefe1a9", func := "levee/leveelaw16.RelMany", spec := "relMany", inPlace := ["internal/bytealg.abigen_runtime_cmpstring", "slices.overlaps[levee/api.Rec]"], unfollowed := true, recurses := true, apart := false }
def RelManySaid : Prop := relManyRow.holds Try.pinned (OpenSpec.ofChange relManySpec)

/-- ITS FALSE NEIGHBOUR: 'it returns false'. Refute it at one input. -/
def relManyWrong : ChangeSpec := { name := "relMany", fn := fun _ => fun
  | [d1, d2] => { results := [.lit (.bool false)], args := [d1, d2] }
  | _ => none }
def RelManyWrongFalsely : Prop := relManyRow.holds Try.pinned (OpenSpec.ofChange relManyWrong)

/- THE SECOND FORM. 'bulk': how many values and letters a reading holds, each counted each time it is reached (what is shared counts as often as it is met; a slice's spare places count too). A statement '..UptoSaid' is the law's where the arguments, and the package variables that the reading takes, are together of bulk at most 1048576: NARROWER than '..Said'. Prove '..Said' where nothing that the law and all that it calls make is longer than what came in: it says more and counts as full. Else prove '..UptoSaid'. A law counts once. -/
mutual
def uptoBulk {H : Type} : DataW H → Nat
  | .lit (.string bytes) => bytes.length + 1
  | .lit _ => 1
  | .nil => 1
  | .ptr d => uptoBulk d + 1
  | .slice elems spare => uptoBulkAll elems + uptoBulkAll spare + 1
  | .agg parts => uptoBulkAll parts + 1
  | .iface _ d => uptoBulk d + 1
  | .map entries => uptoBulkEntries entries + 1
  | .held _ => 1
def uptoBulkAll {H : Type} : List (DataW H) → Nat
  | [] => 0
  | d :: r => uptoBulk d + uptoBulkAll r
def uptoBulkEntries {H : Type} : List (Lit × DataW H) → Nat
  | [] => 0
  | x :: r => uptoBulkEntry x + uptoBulkEntries r
def uptoBulkEntry {H : Type} : Lit × DataW H → Nat
  | (.string bytes, d) => bytes.length + uptoBulk d + 1
  | (_, d) => uptoBulk d + 1
 end
def uptoSmall : (H : Type) → List (DataW H) → Bool := fun _ ds => decide (uptoBulkAll ds ≤ 1048576)
def OpenSpec.upto (s : _root_.Go.ChangeSpec) : _root_.Go.OpenSpec := { _root_.Go.OpenSpec.ofChange s with cond := some uptoSmall }

/-- 'leveelaw16.RelTells', WHERE WHAT IT READS IS OF BULK AT MOST 1048576: true; the input reads as it did. -/
def relTellsUptoRow : OpenClaim := { program := "ytinnnhiaamjjlaa", sum := "b1d29952ad7e9633c26c2894776c56a880acaea4356ff73e2ec0a33f5eefe1a9", func := "levee/leveelaw16.RelTells", spec := "relTells", inPlace := ["internal/bytealg.abigen_runtime_cmpstring", "slices.overlaps[levee/api.Rec]"], unfollowed := true, recurses := true, apart := false, narrowed := true }
def RelTellsUptoSaid : Prop := relTellsUptoRow.holds Try.pinned (OpenSpec.upto relTellsSpec)

/-- 'leveelaw16.RelPuts', WHERE WHAT IT READS IS OF BULK AT MOST 1048576: true; the input reads as it did. -/
def relPutsUptoRow : OpenClaim := { program := "ytinnnhiaamjjlaa", sum := "b1d29952ad7e9633c26c2894776c56a880acaea4356ff73e2ec0a33f5eefe1a9", func := "levee/leveelaw16.RelPuts", spec := "relPuts", inPlace := ["internal/bytealg.abigen_runtime_cmpstring", "slices.overlaps[levee/api.Rec]"], unfollowed := true, recurses := true, apart := false, narrowed := true }
def RelPutsUptoSaid : Prop := relPutsUptoRow.holds Try.pinned (OpenSpec.upto relPutsSpec)

/-- 'leveelaw16.RelScans', WHERE WHAT IT READS IS OF BULK AT MOST 1048576: true; the input reads as it did. -/
def relScansUptoRow : OpenClaim := { program := "ytinnnhiaamjjlaa", sum := "b1d29952ad7e9633c26c2894776c56a880acaea4356ff73e2ec0a33f5eefe1a9", func := "levee/leveelaw16.RelScans", spec := "relScans", inPlace := ["internal/bytealg.abigen_runtime_cmpstring", "slices.overlaps[levee/api.Rec]"], unfollowed := true, recurses := true, apart := false, narrowed := true }
def RelScansUptoSaid : Prop := relScansUptoRow.holds Try.pinned (OpenSpec.upto relScansSpec)

/-- 'leveelaw16.RelTwice', WHERE WHAT IT READS IS OF BULK AT MOST 1048576: true; the input reads as it did. -/
def relTwiceUptoRow : OpenClaim := { program := "ytinnnhiaamjjlaa", sum := "b1d29952ad7e9633c26c2894776c56a880acaea4356ff73e2ec0a33f5eefe1a9", func := "levee/leveelaw16.RelTwice", spec := "relTwice", inPlace := ["internal/bytealg.abigen_runtime_cmpstring", "slices.overlaps[levee/api.Rec]"], unfollowed := true, recurses := true, apart := false, narrowed := true }
def RelTwiceUptoSaid : Prop := relTwiceUptoRow.holds Try.pinned (OpenSpec.upto relTwiceSpec)

/-- 'leveelaw16.RelMany', WHERE WHAT IT READS IS OF BULK AT MOST 1048576: true; the input reads as it did. -/
def relManyUptoRow : OpenClaim := { program := "ytinnnhiaamjjlaa", sum := "b1d29952ad7e9633c26c2894776c56a880acaea4356ff73e2ec0a33f5eefe1a9", func := "levee/leveelaw16.RelMany", spec := "relMany", inPlace := ["internal/bytealg.abigen_runtime_cmpstring", "slices.overlaps[levee/api.Rec]"], unfollowed := true, recurses := true, apart := false, narrowed := true }
def RelManyUptoSaid : Prop := relManyUptoRow.holds Try.pinned (OpenSpec.upto relManySpec)

end Rows
end Go.Proofs.Ytinnnhiaamjjlaa
