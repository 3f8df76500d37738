/- Texts of this seat, one behind the other. -/
import Derived.Test.YtkaljlpbmbfpgaaGreatDoorTB
import Derived.Test.YtkaljlpbmbfpgaaGreatDoorRows
import Derived.Lib.Strings
import Derived.Lib.Slices
import Derived.Lib.Walk
import Derived.Lib.Bytealg
import Derived.KernelRfl
import Derived.Test.YtkaljlpbmbfpgaaGreatDoorTD
import Derived.Test.YtkaljlpbmbfpgaaGreatDoorTG
import Derived.Lib.ItoaNum
import Derived.Lib.Replace
import Derived.Lib.Join
import Derived.Shelf.LaysM
import Derived.Shelf.Strconv.Itoa3
import Derived.Shelf.Strings.OnBuilder
import Derived.Shelf.Strings.Replace
import Derived.Shelf.Bits.Mul64
import Derived.Test.YtkaljlpbmbfpgaaGreatDoorProg
import Derived.Lib.AppendZeros
import Derived.Lib.SliceRun
import Derived.WalkKit
import Derived.Test.YtkaljlpbmbfpgaaGreatDoorTE
import Derived.Shelf.Vars
import Derived.Lib.LaidU8
import Derived.Lib.LaidTab
import Derived.MakeChecks
import Derived.Lay
import Derived.LaidLaws
namespace Go.Proofs.YtkaljlpbmbfpgaaGreatDoor
open Go.Pu

set_option maxHeartbeats 1000000 in
set_option maxRecDepth 100000 in
theorem bytealg_CompareString (a b : ByteArray) (w : World) :
  Calls Tryz.prog 128 #[.string a, .string b] w fun e w' => e = .returned (.int .i64 (Lib.compareBytes a.data.toList b.data.toList)) ∧ w' = w := by
 go_enter Tryz.func128, Tryz.ntmps128
 go_wp2
 rw [run_callFunc_extern Tryz.func139 (by kernel_rfl) (by kernel_rfl) (by kernel_rfl) (e := Extern.BytealgCompare.compare) (by kernel_rfl), Lib.run_compareString]
 simp only [Result.andThen]
 rw [Oper.upon_value]
 go_wp2
 go_ret
 exact ⟨rfl, rfl⟩

set_option maxHeartbeats 1000000 in
theorem strings_Compare (a b : ByteArray) (w : World) :
  Calls Tryz.prog 117 #[.string a, .string b] w fun e w' => e = .returned (.int .i64 (Lib.compareBytes a.data.toList b.data.toList)) ∧ w' = w := by
 go_enter Tryz.func117, Tryz.ntmps117
 go_wp2_with (go_at_call 128; refine (bytealg_CompareString _ _ _).mono ?_; rintro e w' ⟨rfl, rfl⟩)
 go_ret
 exact ⟨rfl, rfl⟩

theorem mixed : Tryz.prog.follows .mixedOrders = true := by kernel_rfl

def namedB (P : Program) : Bool := P.funcs.toList.all fun fn => fn.body.isNone || fn.name != "runtime.NumGoroutine"

theorem named_of {P : Program} (h : namedB P = true) : Named P := by
 intro f fn hf hb hn
 have hm : fn ∈ P.funcs.toList := by
  have := Array.mem_of_getElem? hf
  simpa using this
 have := List.all_eq_true.1 h fn hm
 rw [Bool.or_eq_true] at this
 rcases this with h1 | h1
 ·cases hh : fn.body <;> simp_all
 ·rw [hn] at h1; simp at h1

set_option maxRecDepth 100000 in
theorem named : Named Tryz.prog := named_of (by kernel_rfl)

def X0 : Ext := fun f => if f = 117 then some fun | [.str a, .str b], [] => .ret (.int .i64 (Lib.compareBytes a.data.toList b.data.toList)) [] | _, _ => .fail else none

theorem x0 : XOK Tryz.prog X0 := by
 intro f g xs hc r hf hg
 unfold X0 at hf
 split at hf
 ·rename_i hf31
  subst hf31
  cases hf
  refine ⟨⟨_, Tryz.func117, by kernel_rfl⟩, fun E vs hE hbk hI hL => ?_⟩
  dsimp only at hg
  split at hg
  ·rename_i a b
   cases hg
   obtain ⟨hl, hr⟩ := hL
   match vs, hl, hr with
   | [u, v], _, hr =>
    have h0 := (hr 0 (by simp)).str_inv
    have h1 := (hr 1 (by simp)).str_inv
    simp at h0 h1
    subst h0
    subst h1
    refine (strings_Compare a b E.w).mono ?_
    rintro e w' ⟨rfl, rfl⟩
    exact ⟨_, E, rfl, rfl, hE, (Trans.refl E).toK (Nat.zero_le _), hI, .int _ _⟩
  ·cases hg
 ·cases hf

theorem rids : ridsOK Tryz.prog = true := by kernel_rfl
theorem own : ownKnob Tryz.prog.godebug = none := by kernel_rfl
theorem laidOut : laidOutB Tryz.prog = true := by kernel_rfl

end Go.Proofs.YtkaljlpbmbfpgaaGreatDoor

set_option linter.unusedVariables false
namespace Go.Proofs.YtkaljlpbmbfpgaaGreatDoor
open Go.Pu

def L0 : FuncId → Nat → Option (List Nat) := fun _ _ => none
def M0 : FuncId → Bool := fun _ => false

theorem cloneRow1 (e : List PV) (es : List (List PV)) : callK br Tryz.prog X0 M0 L0 noLS 10 78 [.lst 39 (e :: es)] [] (fun y => fixR Tryz.prog [] 0 y) =
  br (decide ((0 + (e :: es).length) * 32 ≤ 140737488355328)) (some (.all 0, [.arr 39 (e :: es) true])) none := by rw [← callF_eq]; kernel_rfl
theorem cloneRow2 : callK br Tryz.prog X0 M0 L0 noLS 10 78 [.nils] [] (fun y => fixR Tryz.prog [1000000 * (2 * 39 + 1)] 0 y) =
  some (.all 0, [.arr 39 [] true]) := by rw [← callF_eq]; kernel_rfl
theorem cloneRow3 : callK br Tryz.prog X0 M0 L0 noLS 10 78 [.new 39 [[]]] [] (fun y => fixR Tryz.prog [] 0 y) =
  some (.all 0, [.arr 39 [] true]) := by rw [← callF_eq]; kernel_rfl

theorem eCloneRow : EOK Tryz.prog 78 (gClone 39 32) :=
 eokClone (fun e es h => rowAt_of mixed named x0 (noLS_ok _ _ _ _) (fuel := 10) (plan := []) ((cloneRow1 e es).trans (br_pos (decide_eq_true h))))
  (rowAt_of mixed named x0 (noLS_ok _ _ _ _) (fuel := 10) (plan := [1000000 * (2 * 39 + 1)]) cloneRow2)
  (rowAt_of mixed named x0 (noLS_ok _ _ _ _) (fuel := 10) (plan := []) cloneRow3)

noncomputable abbrev XB : Ext := extT [(78, gClone 39 32)] X0
theorem xB : XOK Tryz.prog XB := xok1 x0 eCloneRow

end Go.Proofs.YtkaljlpbmbfpgaaGreatDoor

set_option linter.unusedVariables false
namespace Go.Proofs.YtkaljlpbmbfpgaaGreatDoor
open Go Go.Pu

def itoaB (n : Int) : ByteArray := ⟨(Lib.itoa n).toArray⟩
def replB (s o n : ByteArray) : ByteArray := ⟨(Lib.replaceAll s.data.toList o.data.toList n.data.toList).toArray⟩
def joinB (es : List (List PV)) (sep : ByteArray) : ByteArray := ⟨(Lib.join (es.map fun e => (cS e 0).data.toList) sep.data.toList).toArray⟩
def mulHi (x y : Int) : Int := x * y / 18446744073709551616
def mulLo (x y : Int) : Int := x * y % 18446744073709551616
def inU64 (x : Int) : Bool := decide (0 ≤ x ∧ x < 18446744073709551616)
def inI64 (x : Int) : Bool := decide (-9223372036854775808 ≤ x ∧ x ≤ 9223372036854775807)
def replOk (s o n : ByteArray) : Bool := decide (s.size < 4294967281 ∧ 1 ≤ o.size ∧ s.size + Lib.countB s o * n.size ≤ 140737488355328)
def joinOk (es : List (List PV)) (sep : ByteArray) : Bool := decide (es.length ≤ 140737488355328 ∧ (Lib.join (es.map fun e => (cS e 0).data.toList) sep.data.toList).length ≤ 140737488355328)

def gItoa : List PV → List Blk → Tr := fun xs hc => match xs, hc with
 | [.int .i64 n], [] => .test (inI64 n) (.ret (.str (itoaB n)) []) .fail
 | _, _ => .fail
def gMul64 : List PV → List Blk → Tr := fun xs hc => match xs, hc with
 | [.int .u64 x, .int .u64 y], [] => .test (inU64 x && inU64 y) (.ret (.tuple [.int .u64 (mulHi x y), .int .u64 (mulLo x y)]) []) .fail
 | _, _ => .fail
def gRepl : List PV → List Blk → Tr := fun xs hc => match xs, hc with
 | [.str s, .str o, .str n], [] => .test (replOk s o n) (.ret (.str (replB s o n)) []) .fail
 | _, _ => .fail
def gJoin : List PV → List Blk → Tr := fun xs hc => match xs, hc with
 | [.lst t es, .str sep], [] => if t = 9 then .test (joinOk es sep) (.ret (.str (joinB es sep)) []) .fail else .fail
 | [.nils, .str sep], [] => .ret (.str ⟨#[]⟩) []
 | _, _ => .fail

noncomputable abbrev XD : Ext := extT [(86, gItoa), (164, gMul64), (87, gRepl), (69, gJoin)] XB

end Go.Proofs.YtkaljlpbmbfpgaaGreatDoor

namespace Go.Proofs
open Go.Shelf
def Tryz.lays156_ren : Go.Shelf.Ren := ⟨fun | 156 => 69 | 165 => 88 | 166 => 89 | 169 => 90 | 240 => 102 | 241 => 103 | 276 => 113 | 277 => 114 | n => n, fun | 31 => 92 | 9 => 9 | 3 => 3 | 4 => 4 | 0 => 0 | 20 => 20 | 72 => 117 | 76 => 121 | 70 => 114 | 37 => 115 | 75 => 120 | 127 => 142 | 164 => 151 | 5 => 5 | 80 => 123 | n => n, fun | n => n⟩
theorem Tryz.lays156 : Go.Proofs.Lays.n156 Tryz.prog Tryz.lays156_ren := {
 mixed := by kernel_rfl
 f156 := Tryz.func69.trans (congrArg some (by kernel_rfl))
 f165 := Tryz.func88.trans (congrArg some (by kernel_rfl))
 f166 := Tryz.func89.trans (congrArg some (by kernel_rfl))
 f169 := Tryz.func90.trans (congrArg some (by kernel_rfl))
 f240 := Tryz.func102.trans (congrArg some (by kernel_rfl))
 f241 := Tryz.func103.trans (congrArg some (by kernel_rfl))
 f276 := Tryz.func113.trans (congrArg some (by kernel_rfl))
 f277 := Tryz.func114.trans (congrArg some (by kernel_rfl))
 t0 := Tryz.underlying0
 a0 := Tryz.isAgg0
 z0 := Tryz.sizeOf0
 v0 := Tryz.zeroValue0
 t3 := Tryz.underlying3
 a3 := Tryz.isAgg3
 z3 := Tryz.sizeOf3
 v3 := Tryz.zeroValue3
 t4 := Tryz.underlying4
 a4 := Tryz.isAgg4
 z4 := Tryz.sizeOf4
 v4 := Tryz.zeroValue4
 t9 := Tryz.underlying9
 a9 := Tryz.isAgg9
 z9 := Tryz.sizeOf9
 v9 := Tryz.zeroValue9
 t20 := Tryz.underlying20
 a20 := Tryz.isAgg20
 z20 := Tryz.sizeOf20
 v20 := Tryz.zeroValue20
 t31 := Tryz.underlying92
 a31 := Tryz.isAgg92
 z31 := Tryz.sizeOf92
 v31 := Tryz.zeroValue92
 t37 := Tryz.underlying115
 a37 := Tryz.isAgg115
 z37 := Tryz.sizeOf115
 v37 := Tryz.zeroValue115
 t70 := Tryz.underlying114
 a70 := Tryz.isAgg114
 z70 := Tryz.sizeOf114
 v70 := Tryz.zeroValue114
 t72 := Tryz.underlying117
 a72 := Tryz.isAgg117
 z72 := Tryz.sizeOf117
 v72 := Tryz.zeroValue117
 t75 := Tryz.underlying120
 a75 := Tryz.isAgg120
 z75 := Tryz.sizeOf120
 v75 := Tryz.zeroValue120
 t76 := Tryz.underlying121
 a76 := Tryz.isAgg121
 z76 := Tryz.sizeOf121
 v76 := Tryz.zeroValue121
 t127 := Tryz.underlying142
 a127 := Tryz.isAgg142
 z127 := Tryz.sizeOf142
 v127 := Tryz.zeroValue142
 t164 := Tryz.underlying151
 a164 := Tryz.isAgg151
 z164 := Tryz.sizeOf151
 v164 := Tryz.zeroValue151 }
theorem Tryz.Builder_Extra_156 : Builder.Extra Tryz.prog Tryz.lays156_ren := {
 sizeBuilder := by kernel_rfl
 liesBuilder := by kernel_rfl
 t5 := Tryz.underlying5
 a5 := Tryz.isAgg5
 z5 := Tryz.sizeOf5
 v5 := Tryz.zeroValue5
 infoByte := by kernel_rfl
 cellsByte := by kernel_rfl
 sizeByte := by kernel_rfl
 neB5 := by decide }
open Go.RowKit in
theorem Tryz.strings_Join_none (a : Option Addr) (c : Nat) (sep : ByteArray) (w : World) :
  Calls Tryz.prog 69 #[.slice a 0 c, .string sep] w fun e w' => e = .returned (.string ⟨#[]⟩) ∧ w' = w := Any.strings_Join_none Tryz.lays156 Tryz.Builder_Extra_156 a c sep w
open Go.RowKit in
theorem Tryz.strings_Join (bk o c : Nat) (xs : List ByteArray) (sep : ByteArray) (w : World) (hcells : ∀ (j : Nat) x, xs[j]? = some x → w.cell? ⟨bk, o + j, none⟩ = some (.string x)) (hbk : bk < w.heap.size) (hN : xs.length ≤ 140737488355328) (hcap : xs.length ≤ c) (hlen : (Lib.join (xs.map (·.data.toList)) sep.data.toList).length ≤ 140737488355328) :
  Calls Tryz.prog 69 #[.slice (some ⟨bk, o, none⟩) xs.length c, .string sep] w fun e w' => e = .returned (.string ⟨(Lib.join (xs.map (·.data.toList)) sep.data.toList).toArray⟩) ∧ Below w.heap.size w w' := Any.strings_Join Tryz.lays156 Tryz.Builder_Extra_156 bk o c xs sep w hcells hbk hN hcap hlen
def Tryz.laysM171_ren : Go.Shelf.Ren := ⟨fun | 171 => 86 | 243 => 100 | 246 => 109 | 283 => 119 | 284 => 120 | 285 => 121 | 286 => 122 | 129 => 131 | 317 => 130 | 318 => 132 | 319 => 133 | 320 => 134 | 337 => 140 | 338 => 141 | n => n, fun | 3 => 3 | 9 => 9 | 2 => 2 | 4 => 4 | 171 => 157 | 0 => 0 | 53 => 111 | 37 => 115 | 5 => 5 | 173 => 160 | 212 => 166 | 51 => 167 | 20 => 20 | 213 => 168 | 46 => 156 | 232 => 177 | 233 => 178 | n => n, fun | 17 => 1 | 18 => 4 | 19 => 5 | n => n⟩
theorem Tryz.laysM171 : Go.Proofs.LaysM.n171 Tryz.prog Tryz.laysM171_ren := {
 mixed := by kernel_rfl
 f129 := Tryz.func131.trans (congrArg some (by kernel_rfl))
 f171 := Tryz.func86.trans (congrArg some (by kernel_rfl))
 f243 := Tryz.func100.trans (congrArg some (by kernel_rfl))
 f246 := Tryz.func109.trans (congrArg some (by kernel_rfl))
 f283 := Tryz.func119.trans (congrArg some (by kernel_rfl))
 f284 := Tryz.func120.trans (congrArg some (by kernel_rfl))
 f285 := Tryz.func121.trans (congrArg some (by kernel_rfl))
 f286 := Tryz.func122.trans (congrArg some (by kernel_rfl))
 f317 := Tryz.func130.trans (congrArg some (by kernel_rfl))
 f318 := Tryz.func132.trans (congrArg some (by kernel_rfl))
 f319 := Tryz.func133.trans (congrArg some (by kernel_rfl))
 f320 := Tryz.func134.trans (congrArg some (by kernel_rfl))
 f337 := Tryz.func140.trans (congrArg some (by kernel_rfl))
 f338 := Tryz.func141.trans (congrArg some (by kernel_rfl))
 t0 := Tryz.underlying0
 a0 := Tryz.isAgg0
 z0 := Tryz.sizeOf0
 v0 := Tryz.zeroValue0
 t2 := Tryz.underlying2
 a2 := Tryz.isAgg2
 z2 := Tryz.sizeOf2
 v2 := Tryz.zeroValue2
 t3 := Tryz.underlying3
 a3 := Tryz.isAgg3
 z3 := Tryz.sizeOf3
 v3 := Tryz.zeroValue3
 t4 := Tryz.underlying4
 a4 := Tryz.isAgg4
 z4 := Tryz.sizeOf4
 v4 := Tryz.zeroValue4
 t5 := Tryz.underlying5
 a5 := Tryz.isAgg5
 z5 := Tryz.sizeOf5
 v5 := Tryz.zeroValue5
 t9 := Tryz.underlying9
 a9 := Tryz.isAgg9
 z9 := Tryz.sizeOf9
 v9 := Tryz.zeroValue9
 t20 := Tryz.underlying20
 a20 := Tryz.isAgg20
 z20 := Tryz.sizeOf20
 v20 := Tryz.zeroValue20
 t37 := Tryz.underlying115
 a37 := Tryz.isAgg115
 z37 := Tryz.sizeOf115
 v37 := Tryz.zeroValue115
 t46 := Tryz.underlying156
 a46 := Tryz.isAgg156
 z46 := Tryz.sizeOf156
 v46 := Tryz.zeroValue156
 t51 := Tryz.underlying167
 a51 := Tryz.isAgg167
 z51 := Tryz.sizeOf167
 v51 := Tryz.zeroValue167
 t53 := Tryz.underlying111
 a53 := Tryz.isAgg111
 z53 := Tryz.sizeOf111
 v53 := Tryz.zeroValue111
 t171 := Tryz.underlying157
 a171 := Tryz.isAgg157
 z171 := Tryz.sizeOf157
 v171 := Tryz.zeroValue157
 t173 := Tryz.underlying160
 a173 := Tryz.isAgg160
 z173 := Tryz.sizeOf160
 v173 := Tryz.zeroValue160
 t212 := Tryz.underlying166
 a212 := Tryz.isAgg166
 z212 := Tryz.sizeOf166
 v212 := Tryz.zeroValue166
 t213 := Tryz.underlying168
 a213 := Tryz.isAgg168
 z213 := Tryz.sizeOf168
 t232 := Tryz.underlying177
 a232 := Tryz.isAgg177
 z232 := Tryz.sizeOf177
 v232 := Tryz.zeroValue177
 t233 := Tryz.underlying178
 a233 := Tryz.isAgg178
 z233 := Tryz.sizeOf178
 v233 := Tryz.zeroValue178
 g17 := by kernel_rfl
 g18 := by kernel_rfl
 g19 := by kernel_rfl
 i0 := by kernel_rfl
 i2 := by kernel_rfl
 i3 := by kernel_rfl
 i4 := by kernel_rfl
 i5 := by kernel_rfl
 i9 := by kernel_rfl
 i20 := by kernel_rfl
 i37 := by kernel_rfl
 i46 := by kernel_rfl
 i51 := by kernel_rfl
 i53 := by kernel_rfl
 i171 := by kernel_rfl
 i173 := by kernel_rfl
 i212 := by kernel_rfl
 i232 := by kernel_rfl
 i233 := by kernel_rfl
 m17 := by kernel_rfl
 m18 := by kernel_rfl
 m19 := by kernel_rfl }
open Go.RowKit Go.Sort Go.Lib in
theorem Tryz.strconv_Itoa (n : Int) (h0 : -9223372036854775808 ≤ n) (h1 : n ≤ 9223372036854775807) (w : World) (htab : Lib.TabIs Tryz.prog w "internal/strconv.uint64pow10" .u64 Lib.pow10Tab) :
  Calls Tryz.prog 86 #[.int .i64 n] w fun e w' => e = .returned (.string ⟨(Lib.itoa n).toArray⟩) ∧ ∃ k os, w' = grow (w.drewN k) os := Any.strconv_Itoa Tryz.laysM171 n h0 h1 w htab
def Tryz.lays155_ren : Go.Shelf.Ren := ⟨fun | 155 => 87 | 154 => 101 | 138 => 110 | 165 => 88 | 143 => 111 | 166 => 89 | 197 => 112 | 169 => 90 | 195 => 123 | 218 => 124 | 240 => 102 | 241 => 103 | 219 => 125 | 260 => 126 | 276 => 113 | 277 => 114 | 217 => 135 | 225 => 136 | 224 => 137 | 267 => 138 | 266 => 142 | 314 => 143 | n => n, fun | 9 => 9 | 3 => 3 | 4 => 4 | 72 => 117 | 0 => 0 | 76 => 121 | 105 => 149 | 21 => 21 | 5 => 5 | 70 => 114 | 20 => 20 | 37 => 115 | 75 => 120 | 127 => 142 | 164 => 151 | 46 => 156 | 119 => 170 | 139 => 173 | 138 => 172 | 146 => 175 | 51 => 167 | 80 => 123 | n => n, fun | 1 => 0 | 3 => 2 | 4 => 3 | n => n⟩
theorem Tryz.lays155 : Go.Proofs.Lays.n155 Tryz.prog Tryz.lays155_ren := {
 mixed := by kernel_rfl
 f138 := Tryz.func110.trans (congrArg some (by kernel_rfl))
 f143 := Tryz.func111.trans (congrArg some (by kernel_rfl))
 f154 := Tryz.func101.trans (congrArg some (by kernel_rfl))
 f155 := Tryz.func87.trans (congrArg some (by kernel_rfl))
 f165 := Tryz.func88.trans (congrArg some (by kernel_rfl))
 f166 := Tryz.func89.trans (congrArg some (by kernel_rfl))
 f169 := Tryz.func90.trans (congrArg some (by kernel_rfl))
 f195 := Tryz.func123.trans (congrArg some (by kernel_rfl))
 f197 := Tryz.func112.trans (congrArg some (by kernel_rfl))
 f217 := Tryz.func135.trans (congrArg some (by kernel_rfl))
 f218 := Tryz.func124.trans (congrArg some (by kernel_rfl))
 f219 := Tryz.func125.trans (congrArg some (by kernel_rfl))
 f224 := Tryz.func137.trans (congrArg some (by kernel_rfl))
 f225 := Tryz.func136.trans (congrArg some (by kernel_rfl))
 f240 := Tryz.func102.trans (congrArg some (by kernel_rfl))
 f241 := Tryz.func103.trans (congrArg some (by kernel_rfl))
 f260 := Tryz.func126.trans (congrArg some (by kernel_rfl))
 f266 := Tryz.func142.trans (congrArg some (by kernel_rfl))
 f267 := Tryz.func138.trans (congrArg some (by kernel_rfl))
 f276 := Tryz.func113.trans (congrArg some (by kernel_rfl))
 f277 := Tryz.func114.trans (congrArg some (by kernel_rfl))
 f314 := Tryz.func143.trans (congrArg some (by kernel_rfl))
 t0 := Tryz.underlying0
 a0 := Tryz.isAgg0
 z0 := Tryz.sizeOf0
 v0 := Tryz.zeroValue0
 t3 := Tryz.underlying3
 a3 := Tryz.isAgg3
 z3 := Tryz.sizeOf3
 v3 := Tryz.zeroValue3
 t4 := Tryz.underlying4
 a4 := Tryz.isAgg4
 z4 := Tryz.sizeOf4
 v4 := Tryz.zeroValue4
 t5 := Tryz.underlying5
 a5 := Tryz.isAgg5
 z5 := Tryz.sizeOf5
 v5 := Tryz.zeroValue5
 t9 := Tryz.underlying9
 a9 := Tryz.isAgg9
 z9 := Tryz.sizeOf9
 v9 := Tryz.zeroValue9
 t20 := Tryz.underlying20
 a20 := Tryz.isAgg20
 z20 := Tryz.sizeOf20
 v20 := Tryz.zeroValue20
 t21 := Tryz.underlying21
 a21 := Tryz.isAgg21
 z21 := Tryz.sizeOf21
 v21 := Tryz.zeroValue21
 t37 := Tryz.underlying115
 a37 := Tryz.isAgg115
 z37 := Tryz.sizeOf115
 v37 := Tryz.zeroValue115
 t46 := Tryz.underlying156
 a46 := Tryz.isAgg156
 z46 := Tryz.sizeOf156
 v46 := Tryz.zeroValue156
 t51 := Tryz.underlying167
 a51 := Tryz.isAgg167
 z51 := Tryz.sizeOf167
 v51 := Tryz.zeroValue167
 t70 := Tryz.underlying114
 a70 := Tryz.isAgg114
 z70 := Tryz.sizeOf114
 v70 := Tryz.zeroValue114
 t72 := Tryz.underlying117
 a72 := Tryz.isAgg117
 z72 := Tryz.sizeOf117
 v72 := Tryz.zeroValue117
 t75 := Tryz.underlying120
 a75 := Tryz.isAgg120
 z75 := Tryz.sizeOf120
 v75 := Tryz.zeroValue120
 t76 := Tryz.underlying121
 a76 := Tryz.isAgg121
 z76 := Tryz.sizeOf121
 v76 := Tryz.zeroValue121
 t105 := Tryz.underlying149
 a105 := Tryz.isAgg149
 z105 := Tryz.sizeOf149
 v105 := Tryz.zeroValue149
 t119 := Tryz.underlying170
 a119 := Tryz.isAgg170
 z119 := Tryz.sizeOf170
 t127 := Tryz.underlying142
 a127 := Tryz.isAgg142
 z127 := Tryz.sizeOf142
 v127 := Tryz.zeroValue142
 t138 := Tryz.underlying172
 a138 := Tryz.isAgg172
 z138 := Tryz.sizeOf172
 v138 := Tryz.zeroValue172
 t139 := Tryz.underlying173
 a139 := Tryz.isAgg173
 z139 := Tryz.sizeOf173
 v139 := Tryz.zeroValue173
 t146 := Tryz.underlying175
 a146 := Tryz.isAgg175
 z146 := Tryz.sizeOf175
 v146 := Tryz.zeroValue175
 t164 := Tryz.underlying151
 a164 := Tryz.isAgg151
 z164 := Tryz.sizeOf151
 v164 := Tryz.zeroValue151
 g1 := by kernel_rfl
 g3 := by kernel_rfl
 g4 := by kernel_rfl }
theorem Tryz.Builder_Extra_155 : Builder.Extra Tryz.prog Tryz.lays155_ren := {
 sizeBuilder := by kernel_rfl
 liesBuilder := by kernel_rfl
 t5 := Tryz.underlying5
 a5 := Tryz.isAgg5
 z5 := Tryz.sizeOf5
 v5 := Tryz.zeroValue5
 infoByte := by kernel_rfl
 cellsByte := by kernel_rfl
 sizeByte := by kernel_rfl
 neB5 := by decide }
open Go.RowKit Go.Lib in
theorem Tryz.strings_ReplaceAll (s old new : ByteArray) (m : Int) (w : World) (hs : s.size < 4294967281) (hm : w.cell? ⟨0, 0, none⟩ = some (.int .i64 m)) (h1 : 1 ≤ old.size) (hlen : s.size + Lib.countB s old * new.size ≤ 140737488355328) :
  Calls Tryz.prog 87 #[.string s, .string old, .string new] w fun e w' =>
   e = .returned (.string ⟨(Lib.replaceAll s.data.toList old.data.toList new.data.toList).toArray⟩) ∧ Below w.heap.size w w' := Any.strings_ReplaceAll Tryz.lays155 Tryz.Builder_Extra_155 s old new m w hs hm h1 hlen
def Tryz.lays264_ren : Go.Shelf.Ren := ⟨fun | 264 => 164 | n => n, fun | 53 => 111 | 46 => 156 | n => n, fun | n => n⟩
theorem Tryz.lays264 : Go.Proofs.Lays.n264 Tryz.prog Tryz.lays264_ren := {
 mixed := by kernel_rfl
 f264 := Tryz.func164.trans (congrArg some (by kernel_rfl))
 t46 := Tryz.underlying156
 a46 := Tryz.isAgg156
 z46 := Tryz.sizeOf156
 v46 := Tryz.zeroValue156
 t53 := Tryz.underlying111
 a53 := Tryz.isAgg111
 z53 := Tryz.sizeOf111
 v53 := Tryz.zeroValue111 }
open Go.RowKit Go.Lib in
theorem Tryz.bits_Mul64 (x y : Nat) (hx : x < 18446744073709551616) (hy : y < 18446744073709551616) (w : World) :
  Calls Tryz.prog 164 #[.int .u64 x, .int .u64 y] w fun e w' => e = .returned (.tuple #[.int .u64 ((x * y / 18446744073709551616 : Nat) : Int), .int .u64 ((x * y % 18446744073709551616 : Nat) : Int)]) ∧ w' = w := Any.bits_Mul64 Tryz.lays264 x y hx hy w
end Go.Proofs

set_option linter.unusedVariables false
namespace Go.Proofs.YtkaljlpbmbfpgaaGreatDoor
open Go Go.Pu Go.RowKit

theorem tabPow {E : Env} (hI : Inv Tryz.prog E) : Lib.TabIs Tryz.prog E.w "internal/strconv.uint64pow10" .u64 Lib.pow10Tab := by
 obtain ⟨_, c, T, fz, h2, h3⟩ := hI.tab _ (List.mem_cons_self ..)
 have hg : Tryz.prog.globalNamed "internal/strconv.uint64pow10" = some 1 := by kernel_rfl
 unfold Lib.TabIs World.var?
 rw [hg]
 simp only [Option.bind_some]
 rw [h2]
 simp only
 rw [h3]

theorem tabMax {E : Env} (hI : Inv Tryz.prog E) : ∃ m, E.w.cell? ⟨0, 0, none⟩ = some (.int .i64 m) := by
 obtain ⟨_, c, T, fz, h2, m, h3⟩ := hI.tab _ (List.mem_cons_of_mem _ (List.mem_cons_self ..))
 refine ⟨m, ?_⟩
 unfold World.cell?
 simp only [h2, Option.isSome_none, Bool.false_eq_true, if_false, h3]

theorem drewN_grow (w : World) (k : Nat) (os : Array Obj) : Grow w (Sort.grow (w.drewN k) os) := by
 have h : (w.drewN k).heap = w.heap ∧ (w.drewN k).os = w.os ∧ (w.drewN k).tape = w.tape ∧ (w.drewN k).output = w.output := by
  induction k generalizing w with
  | zero => exact ⟨rfl, rfl, rfl, rfl⟩
  | succ k ih => exact ih w.drew
 obtain ⟨h1, h2, h3, h4⟩ := h
 refine ⟨by simp [Sort.grow, h1], by simp [Sort.grow, h2], by simp [Sort.grow, h3], by simp [Sort.grow, h4], fun k hk => ?_⟩
 simp [Sort.grow, h1, Array.getElem?_append, hk]

set_option maxRecDepth 100000 in
theorem eItoa : EOK Tryz.prog 86 gItoa := eok_rows fun xs hc r hg => by
 unfold gItoa at hg
 split at hg
 ·rename_i n
  obtain ⟨hb, rfl⟩ := val_test hg
  have hb := of_decide_eq_true hb
  refine rowLib ⟨_, Tryz.func86, by kernel_rfl⟩ fun E vs hE hI hL => ?_
  obtain ⟨v, vs', rfl, h1, h2⟩ := repL_0 hL
  obtain rfl := repL_nil h2
  obtain rfl := h1.int_inv
  refine (Tryz.strconv_Itoa n hb.1 hb.2 E.w (tabPow hI)).mono ?_
  rintro e w' ⟨rfl, k, os, rfl⟩
  exact ⟨_, rfl, drewN_grow _ _ _, fun E' => .str _⟩
 ·cases hg

set_option maxRecDepth 100000 in
theorem eMul64 : EOK Tryz.prog 164 gMul64 := eok_rows fun xs hc r hg => by
 unfold gMul64 at hg
 split at hg
 ·rename_i x y
  obtain ⟨hb, rfl⟩ := val_test hg
  rw [Bool.and_eq_true] at hb
  have hx := of_decide_eq_true hb.1
  have hy := of_decide_eq_true hb.2
  refine rowLib ⟨_, Tryz.func164, by kernel_rfl⟩ fun E vs hE hI hL => ?_
  obtain ⟨v, vs', rfl, h1, h2⟩ := repL_0 hL
  obtain ⟨v', vs'', rfl, h3, h4⟩ := repL_0 h2
  obtain rfl := repL_nil h4
  obtain rfl := h1.int_inv
  obtain rfl := h3.int_inv
  obtain ⟨x', rfl⟩ : ∃ x' : Nat, x = x' := ⟨x.toNat, by omega⟩
  obtain ⟨y', rfl⟩ : ∃ y' : Nat, y = y' := ⟨y.toNat, by omega⟩
  refine (Tryz.bits_Mul64 x' y' (by omega) (by omega) E.w).mono ?_
  rintro e w' ⟨rfl, rfl⟩
  refine ⟨_, rfl, Grow.refl _, fun E' => .tuple _ _ rfl fun i hi => ?_⟩
  have : i = 0 ∨ i = 1 := by simp at hi; omega
  rcases this with rfl | rfl
  ·have e1 : mulHi x' y' = ((x' * y' / 18446744073709551616 : Nat) : Int) := by simp [mulHi]
   simp only [e1]; exact .int _ _
  ·have e1 : mulLo x' y' = ((x' * y' % 18446744073709551616 : Nat) : Int) := by simp [mulLo]
   simp only [e1]; exact .int _ _
 ·cases hg

set_option maxRecDepth 100000 in
theorem eRepl : EOK Tryz.prog 87 gRepl := eok_rows fun xs hc r hg => by
 unfold gRepl at hg
 split at hg
 ·rename_i s o n
  obtain ⟨hb, rfl⟩ := val_test hg
  have hb := of_decide_eq_true hb
  refine rowLib ⟨_, Tryz.func87, by kernel_rfl⟩ fun E vs hE hI hL => ?_
  obtain ⟨v, vs', rfl, h1, h2⟩ := repL_0 hL
  obtain ⟨v', vs'', rfl, h3, h4⟩ := repL_0 h2
  obtain ⟨v2, vs2, rfl, h5, h6⟩ := repL_0 h4
  obtain rfl := repL_nil h6
  obtain rfl := h1.str_inv
  obtain rfl := h3.str_inv
  obtain rfl := h5.str_inv
  obtain ⟨m, hm⟩ := tabMax hI
  refine (Tryz.strings_ReplaceAll s o n m E.w hb.1 hm hb.2.1 hb.2.2).mono ?_
  rintro e w' ⟨rfl, hw⟩
  exact ⟨_, rfl, grow_below hw, fun E' => .str _⟩
 ·cases hg

theorem strs_of {es : List (List PV)} (h : ∀ i, i < es.length → cellsOK [.str] (es.getD i []) = true) : ∃ xs : List ByteArray, es = xs.map fun s => [.str s] := by
 induction es with
 | nil => exact ⟨[], rfl⟩
 | cons e es ih =>
  obtain ⟨xs, rfl⟩ := ih fun i hi => by simpa using h (i + 1) (by simpa using hi)
  have h0 := h 0 (by simp)
  match e, h0 with
  | [.str s], _ => exact ⟨s :: xs, rfl⟩

set_option maxRecDepth 100000 in
theorem eJoin : EOK Tryz.prog 69 gJoin := eok_rows fun xs hc r hg => by
 unfold gJoin at hg
 split at hg
 ·rename_i t es sep
  split at hg
  ·rename_i et
   subst et
   obtain ⟨hb, rfl⟩ := val_test hg
   have hb := of_decide_eq_true hb
   refine rowLib ⟨_, Tryz.func69, by kernel_rfl⟩ fun E vs hE hI hL => ?_
   obtain ⟨v, vs', rfl, h1, h2⟩ := repL_0 hL
   obtain ⟨v', vs'', rfl, h3, h4⟩ := repL_0 h2
   obtain rfl := repL_nil h4
   obtain rfl := h3.str_inv
   have e0 : joinB [] sep = ⟨#[]⟩ := rfl
   have hk1 : kds Tryz.prog 9 = [.str] := by kernel_rfl
   have hs1 : elSize Tryz.prog 9 = some 1 := by kernel_rfl
   generalize hes : es = es0 at h1
   cases h1 with
   | lst0 _ A cap hA =>
    rw [e0]
    refine (Tryz.strings_Join_none A cap sep E.w).mono ?_
    rintro e w' ⟨rfl, rfl⟩
    exact ⟨_, rfl, Grow.refl _, fun E' => .str _⟩
   | lst _ _ blk o cap sz c T fz hs hw him hcap hlen hk hr =>
    subst hes
    rw [hk1] at hk
    obtain ⟨ss, rfl⟩ := strs_of hk
    rw [hs1] at hs
    obtain rfl := Option.some.inj hs
    have em : ((ss.map fun s => [PV.str s]).map fun e => (cS e 0).data.toList) = ss.map (·.data.toList) := by
     rw [List.map_map]; rfl
    unfold joinB at *
    rw [em] at hb ⊢
    rw [List.length_map] at hb hcap hlen ⊢
    refine (Tryz.strings_Join blk o cap ss sep E.w (fun j x hj => ?_) (heap_lt hw) hb.1 hcap hb.2).mono ?_
    ·have hjl : j < ss.length := by
      rcases Nat.lt_or_ge j ss.length with h | h
      ·exact h
      ·rw [List.getElem?_eq_none h] at hj; cases hj
     have := hr j 0 (by simpa using hjl) (by omega)
     simp only [List.getD, List.getElem?_map, hj, Option.map_some, Option.getD_some, List.getElem?_cons_zero] at this
     have h9 := this.str_inv
     simp only [Nat.mul_one, Nat.add_zero] at h9
     have hlt : o + j < c.size := by omega
     rw [Array.getD, dif_pos hlt] at h9
     unfold World.cell?
     simp only [hw, Option.isSome_none, Bool.false_eq_true, if_false]
     rw [Array.getElem?_eq_getElem hlt]
     exact congrArg some h9
    ·rintro e w' ⟨rfl, hw'⟩
     exact ⟨_, rfl, grow_below hw', fun E' => .str _⟩
  ·cases hg
 ·rename_i sep
  cases hg
  refine rowLib ⟨_, Tryz.func69, by kernel_rfl⟩ fun E vs hE hI hL => ?_
  obtain ⟨v, vs', rfl, h1, h2⟩ := repL_0 hL
  obtain ⟨v', vs'', rfl, h3, h4⟩ := repL_0 h2
  obtain rfl := repL_nil h4
  obtain rfl := h3.str_inv
  cases h1 with
  | nils =>
   refine (Tryz.strings_Join_none none 0 sep E.w).mono ?_
   rintro e w' ⟨rfl, rfl⟩
   exact ⟨_, rfl, Grow.refl _, fun E' => .str _⟩
 ·cases hg

theorem xD : XOK Tryz.prog XD := xokT xB (List.forall_mem_cons.2 ⟨eItoa, List.forall_mem_cons.2 ⟨eMul64, List.forall_mem_cons.2 ⟨eRepl, List.forall_mem_cons.2 ⟨eJoin, fun _ h => nomatch h⟩⟩⟩⟩)

end Go.Proofs.YtkaljlpbmbfpgaaGreatDoor

set_option linter.unusedVariables false
set_option linter.unusedSimpArgs false
namespace Go.Proofs.YtkaljlpbmbfpgaaGreatDoor
open Go Go.Pu Go.RowKit

def gGrow : List PV → List Blk → Tr := fun xs hc => match xs, hc with
 | [.nils, .int .i64 n], [] => .test (decide (0 ≤ n ∧ n * 32 ≤ 140737488355328)) (.ret (.all 0) [.arr 39 [] true]) .fail
 | _, _ => .fail

set_option maxHeartbeats 4000000 in
set_option maxRecDepth 100000 in
theorem growRow0 (w : World) : Calls Tryz.prog 91 #[.slice none 0 0, .int .i64 0] w fun e w' => e = .returned (.slice none 0 0) ∧ w' = w := by
 go_enter Tryz.func91, Tryz.ntmps91
 go_wp2
 go_ret
 exact ⟨rfl, rfl⟩

set_option maxHeartbeats 4000000 in
set_option maxRecDepth 100000 in
theorem growRow1 (n : Nat) (h0 : 0 < n) (hn : n * 32 ≤ 140737488355328) (w : World) : ∃ (c : Array Value), n * 3 ≤ c.size ∧ n ≤ grownCap w n 0 39 ∧ grownCap w n 0 39 * 3 ≤ c.size ∧
  Calls Tryz.prog 91 #[.slice none 0 0, .int .i64 n] w fun e w' => e = .returned (.slice (some ⟨w.heap.size, 0, none⟩) 0 (grownCap w n 0 39)) ∧ w' = w.drew.alloc (.cells c 39) := by
 obtain ⟨i0, hi0, hs0, hb0, z, hz0, hzc⟩ : ∃ i0 : TypeInfo, Tryz.prog.info? 39 = some i0 ∧ i0.size = 3 ∧ i0.bytes = 32 ∧ ∃ z, i0.zero = some z ∧ z.cells.size = 3 := by
  have a1 : (Tryz.prog.info? 39).map (·.size) = some 3 := by kernel_rfl
  have a2 : (Tryz.prog.info? 39).map (·.bytes) = some 32 := by kernel_rfl
  have a3 : ((Tryz.prog.info? 39).bind fun i => i.zero.map (·.cells.size)) = some 3 := by kernel_rfl
  cases hi : Tryz.prog.info? 39 with
  | none => rw [hi] at a1; cases a1
  | some i =>
   rw [hi] at a1 a2 a3
   cases hz : i.zero with
   | none => simp [hz] at a3
   | some z => exact ⟨i, rfl, by simpa using a1, by simpa using a2, z, hz, by simpa [hz] using a3⟩
 have hge := grownCap_ge w n 0 39
 have hrz : ∀ ty, (Builtin.append_ #[47, 3] ty #[.slice none 0 0, .int .i64 (n : Int)]).run Tryz.prog w =
   .ok (.slice (some ⟨w.heap.size, 0, none⟩) n (grownCap w n 0 39)) (w.drew.alloc (.cells (Builtin.zeroCells z.cells n ++ Builtin.zeroCells z.cells (grownCap w n 0 39 - n)) 39)) := fun ty =>
  Lib.run_append_nil_zeros w 47 3 ty 39 i0 z .i64 .i64 (by kernel_rfl) (by kernel_rfl) hi0 hz0 n h0 (by omega) (by omega) (by rw [hb0]; omega)
 have hG63 : grownCap w n 0 39 ≤ 9223372036854775807 := by
  have := grownCap_le_maxLen w n 0 39 (by unfold maxLen; omega)
  unfold maxLen at this
  omega
 refine ⟨Builtin.zeroCells z.cells n ++ Builtin.zeroCells z.cells (grownCap w n 0 39 - n), ?_, hge, ?_, ?_⟩
 ·rw [Array.size_append, size_zeroCells', size_zeroCells', hzc]; omega
 ·rw [Array.size_append, size_zeroCells', size_zeroCells', hzc]; omega
 ·generalize grownCap w n 0 39 = G at *
  generalize Builtin.zeroCells z.cells n ++ Builtin.zeroCells z.cells (G - n) = C at *
  have h1 : ¬ ((n : Int) < 0) := by omega
  have h3 : wrap64 ((n : Int) - 0) = (n : Int) := by unfold wrap64; omega
  have h4 : (n : Int) > 0 := by omega
  go_enter Tryz.func91, Tryz.ntmps91
  go_wp2_with (at_builtin; refine Lib.wpList_append_run _ rfl _ _ _ _ rfl _ _ rfl rfl _ _ (hrz _) ?_)
  all_goals (go_ret; exact ⟨rfl, rfl⟩)

set_option maxRecDepth 100000 in
theorem eGrow : EOK Tryz.prog 91 gGrow := eok_rows fun xs hc r hg => by
 unfold gGrow at hg
 split at hg
 ·rename_i n
  obtain ⟨hb, rfl⟩ := val_test hg
  have hb := of_decide_eq_true hb
  refine ⟨⟨_, Tryz.func91, by kernel_rfl⟩, fun E vs hE hok hI hL => ?_⟩
  obtain ⟨v, vs', rfl, h1, h2⟩ := repL_0 hL
  obtain ⟨v', vs'', rfl, h3, h4⟩ := repL_0 h2
  obtain rfl := repL_nil h4
  obtain rfl := h3.int_inv
  have hs : elSize Tryz.prog 39 = some 3 := by kernel_rfl
  cases h1 with
  | nils =>
   by_cases h0 : n = 0
   ·subst h0
    refine (growRow0 E.w).mono ?_
    rintro e w' ⟨rfl, rfl⟩
    obtain ⟨E', e1, e2, e3, e4, e5⟩ := add_none (al := none) hI trivial 39 hs none
    rw [hE] at e2 e5
    exact ⟨_, E', rfl, e1, e2, e3.toK (Nat.zero_le _), e4, e5⟩
   ·obtain ⟨m, rfl⟩ : ∃ m : Nat, n = m := ⟨n.toNat, by omega⟩
    obtain ⟨c, c1, c2, c3, c4⟩ := growRow1 m (by omega) (by omega) E.w
    refine c4.mono ?_
    rintro e w' ⟨rfl, rfl⟩
    have hG : Grow E.w (E.w.drew.alloc (.cells c 39)) := by
     refine ⟨by show _ ≤ (E.w.heap.push _).size; simp, rfl, rfl, rfl, fun k hk => ?_⟩
     show (E.w.heap.push _)[k]? = E.w.heap[k]?
     simp [Array.getElem?_push, Nat.ne_of_lt hk]
    obtain ⟨E', e1, e2, e3, e4, e5⟩ := add_arr (al := none) hI trivial 39 39 hs (es := []) (c := c) (w' := E.w.drew.alloc (.cells c 39)) (blk := E.w.heap.size) hG (Nat.le_refl _)
     (show (E.w.heap.push _)[E.w.heap.size]? = _ by simp) (by simp) (fun i hi => by simp at hi) (fun i j hi hj => by simp at hi) (cap := grownCap E.w m 0 39) (by simp) c3
    rw [hE] at e2 e5
    exact ⟨_, E', rfl, e1, e2, e3.toK (Nat.zero_le _), e4, e5⟩
 ·cases hg

/-- the tables that the laws of rows stand on: for what is evaluated outright, and above the values' table -/
noncomputable abbrev XG : Ext := extT [(91, gGrow)] XD
theorem xG : XOK Tryz.prog XG := xok1 xD eGrow

end Go.Proofs.YtkaljlpbmbfpgaaGreatDoor

set_option linter.unusedVariables false
namespace Go.Proofs.YtkaljlpbmbfpgaaGreatDoor
open Go Go.Pu

theorem cloneCnt1 (e : List PV) (es : List (List PV)) : callK br Tryz.prog X0 M0 L0 noLS 10 75 [.lst 49 (e :: es)] [] (fun y => fixR Tryz.prog [] 0 y) =
  br (decide ((0 + (e :: es).length) * 32 ≤ 140737488355328)) (some (.all 0, [.arr 49 (e :: es) true])) none := by rw [← callF_eq]; kernel_rfl
theorem cloneCnt2 : callK br Tryz.prog X0 M0 L0 noLS 10 75 [.nils] [] (fun y => fixR Tryz.prog [1000000 * (2 * 49 + 1)] 0 y) =
  some (.all 0, [.arr 49 [] true]) := by rw [← callF_eq]; kernel_rfl
theorem cloneCnt3 : callK br Tryz.prog X0 M0 L0 noLS 10 75 [.new 49 [[]]] [] (fun y => fixR Tryz.prog [] 0 y) =
  some (.all 0, [.arr 49 [] true]) := by rw [← callF_eq]; kernel_rfl

theorem eCloneCnt : EOK Tryz.prog 75 (gClone 49 32) :=
 eokClone (fun e es h => rowAt_of mixed named x0 (noLS_ok _ _ _ _) (fuel := 10) (plan := []) ((cloneCnt1 e es).trans (br_pos (decide_eq_true h))))
  (rowAt_of mixed named x0 (noLS_ok _ _ _ _) (fuel := 10) (plan := [1000000 * (2 * 49 + 1)]) cloneCnt2)
  (rowAt_of mixed named x0 (noLS_ok _ _ _ _) (fuel := 10) (plan := []) cloneCnt3)

noncomputable abbrev XI : Ext := extT [(75, gClone 49 32)] XG
theorem xI : XOK Tryz.prog XI := xok1 xG eCloneCnt

end Go.Proofs.YtkaljlpbmbfpgaaGreatDoor

set_option linter.unusedVariables false
namespace Go.Proofs.YtkaljlpbmbfpgaaGreatDoor
open Go Go.Pu

/-- cmp.isNaN[int] -/
def L_za : FuncId → Nat → Option (List Nat) := liveT []
def M_za : FuncId → Bool := fun _ => false
def S_za : FSp := ⟨[.one (.i .i64)], [], [], [([.one (.b)], [])]⟩
noncomputable def m_za : List U → Rt
 | [.i v0] =>
  (.stop 0 [.b (v0 != v0)])
 | _ => .fail
set_option maxRecDepth 100000 in
theorem q_za (v0 : Int) : callK br Tryz.prog XI M_za L_za (lsT []) 60 127 (encs [.i v0] 0 S_za.ap) (encH [.i v0] (ws S_za.ap) S_za.ah) (fun y => fixR Tryz.prog S_za.plan S_za.ah.length y) =
  (m_za [.i v0]).go br (fun _ => none) S_za.fin := by
 rw [← callF_eq]; kernel_rfl
theorem e_za : EOK Tryz.prog 127 (gI S_za m_za) :=
 eokTold mixed named xI (loopsOK_list rids noneIn) 60 S_za m_za (by
  intro us v h; unfold m_za at h; split at h
  ·rename_i v0; exact q_za v0
  ·cases h) true
noncomputable abbrev X1 : Ext := extT [(127, (gI S_za m_za))] XI
theorem x1 : XOK Tryz.prog X1 := xok1 xI e_za

/-- cmp.Compare[int] -/
def L_zb : FuncId → Nat → Option (List Nat) := liveT []
def M_zb : FuncId → Bool := fun _ => false
def S_zb : FSp := ⟨[.one (.i .i64), .one (.i .i64)], [], [], [([.one (.i .i64)], [])]⟩
noncomputable def m_zb : List U → Rt
 | [.i v0, .i v1] =>
  (.test (v0 != v0)
  (.test (v1 != v1)
  (.stop 0 [.i ((0 : Int))])
  (.stop 0 [.i ((-1 : Int))]))
  (.test (v1 != v1)
  (.stop 0 [.i ((1 : Int))])
  (.test (decide (v0 < v1))
  (.stop 0 [.i ((-1 : Int))])
  (.test (decide (v0 > v1))
  (.stop 0 [.i ((1 : Int))])
  (.stop 0 [.i ((0 : Int))])))))
 | _ => .fail
set_option maxRecDepth 100000 in
theorem q_zb (v0 v1 : Int) : callK br Tryz.prog X1 M_zb L_zb (lsT []) 60 116 (encs [.i v0, .i v1] 0 S_zb.ap) (encH [.i v0, .i v1] (ws S_zb.ap) S_zb.ah) (fun y => fixR Tryz.prog S_zb.plan S_zb.ah.length y) =
  (m_zb [.i v0, .i v1]).go br (fun _ => none) S_zb.fin := by
 rw [← callF_eq]; kernel_rfl
theorem e_zb : EOK Tryz.prog 116 (gF S_zb m_zb) :=
 eokTold mixed named x1 (loopsOK_list rids noneIn) 60 S_zb m_zb (by
  intro us v h; unfold m_zb at h; split at h
  ·rename_i v0 v1; exact q_zb v0 v1
  ·cases h) false
noncomputable abbrev X2 : Ext := extT [(116, (gF S_zb m_zb))] X1
theorem x2 : XOK Tryz.prog X2 := xok1 x1 e_zb

/-- levee/value.Compare -/
def L_zc : FuncId → Nat → Option (List Nat) := liveT [(115, 3, [3, 6, 7, 8]), (115, 1000003, [3]), (115, 2000003, [2])]
def M_zc : FuncId → Bool := fun _ => false
noncomputable def rd_zc_115_3 : List U → Rt
 | [.i v0, .l v1, .i v2, .i v3] =>
  (.test (decide (v3 < v2))
  (.test (inR v3 (ln v1))
  (.test (cI (el v1 v3) 0 != v0)
  (.stop 0 [.i (cI (el v1 v3) 0)])
  (.next [.i v0, .l v1, .i v2, .i (w64 (v3 + (1 : Int)))]))
  .fail)
  (.stop 1 [.i v0]))
 | _ => .fail
def sp_zc_115_3 : LSp := ⟨18, ⟨[(3, .one (.i .i64)), (6, .one (.l 3)), (7, .one (.i .i64)), (8, .one (.i .i64))], []⟩, [(.ret, ⟨[(2, .one (.i .i64))], []⟩), (.exit 0, ⟨[(3, .one (.i .i64))], []⟩)]⟩
set_option maxRecDepth 100000 in
theorem rq_zc_115_3 (v0 : Int) (v1 : List (List PV)) (v2 v3 : Int) : runK br Tryz.prog (callK br Tryz.prog X2 M_zc L_zc (lsT []) 40) M_zc (lsT [] 115 0) 40 0 (L_zc 115) (bodyOf Tryz.prog 115 3) (sp_zc_115_3.s.ts sp_zc_115_3.n [.i v0, .l v1, .i v2, .i v3]) (sp_zc_115_3.s.h [.i v0, .l v1, .i v2, .i v3]) (idc Tryz.prog 0 (L_zc 115) 3) =
  (rd_zc_115_3 [.i v0, .l v1, .i v2, .i v3]).go br (fun us' => some (.normal, sp_zc_115_3.s.ts sp_zc_115_3.n us', sp_zc_115_3.s.h us')) sp_zc_115_3.fin := by
 rw [← callF_eq, ← runF_eq]; kernel_rfl
theorem lo_zc_115_3 {R : Type} : LoopTells Tryz.prog X2 M_zc L_zc 0 (L_zc 115) (bodyOf Tryz.prog 115 3) (gL (R := R) sp_zc_115_3 rd_zc_115_3 br) :=
 loopTold (callK_ev (loopsOK_list rids noneIn) 40) (lsokIn (loopsOK_list rids noneIn) 115 0 3) (by kernel_rfl) sp_zc_115_3 rd_zc_115_3 rfl (by kernel_rfl) (by
  intro us v h; unfold rd_zc_115_3 at h; split at h
  ·rename_i v0 v1 v2 v3; exact rq_zc_115_3 v0 v1 v2 v3
  ·cases h)
noncomputable abbrev ll_zc_115_3 {R : Type} : List (Nat × Nat × Nat × Smy R) := (115, 0, 3, gL sp_zc_115_3 rd_zc_115_3 br) :: []
theorem lk_zc_115_3 {R : Type} : ∀ e ∈ ll_zc_115_3 (R := R), LoopTells Tryz.prog X2 M_zc L_zc e.2.1 (L_zc e.1) (bodyOf Tryz.prog e.1 e.2.2.1) e.2.2.2 := List.forall_mem_cons.2 ⟨lo_zc_115_3, noneIn⟩
def S_zc : FSp := ⟨[.agg [.i .i64, .i .i64, .s], .agg [.i .i64, .i .i64, .s]], [], [], [([.one (.i .i64)], [])]⟩
noncomputable def m_zc : List U → Rt
 | [.i v0, .i v1, .s v2, .i v3, .i v4, .s v5] =>
  (let r0 : Rs := (Rt.res (m_zb [U.i v0, U.i v3]))
  (.test (ok r0 0)
  (let r1 : Rs := (Rt.res (m_zb [U.i v1, U.i v4]))
  (.test (ok r1 0)
  (let r2 : Rs := (lres rd_zc_115_3 [U.i (0 : Int), U.l [[pI (uI (out r0 0) 0)], [pI (uI (out r1 0) 0)], [pI (Lib.compareBytes (Array.toList (ByteArray.data v2)) (Array.toList (ByteArray.data v5)))]], U.i (3 : Int), U.i (0 : Int)])
  (.test (ok r2 0)
  (.stop 0 [.i (uI (out r2 0) 0)])
  (.test (ok r2 1)
  (.stop 0 [.i (uI (out r2 1) 0)])
  .fail)))
  .fail))
  .fail))
 | _ => .fail
set_option maxRecDepth 100000 in
theorem q_zc (v0 v1 : Int) (v2 : ByteArray) (v3 v4 : Int) (v5 : ByteArray) : callK br Tryz.prog X2 M_zc L_zc (lsT ll_zc_115_3) 60 106 (encs [.i v0, .i v1, .s v2, .i v3, .i v4, .s v5] 0 S_zc.ap) (encH [.i v0, .i v1, .s v2, .i v3, .i v4, .s v5] (ws S_zc.ap) S_zc.ah) (fun y => fixR Tryz.prog S_zc.plan S_zc.ah.length y) =
  (m_zc [.i v0, .i v1, .s v2, .i v3, .i v4, .s v5]).go br (fun _ => none) S_zc.fin := by
 rw [← callF_eq]; kernel_rfl
theorem e_zc : EOK Tryz.prog 106 (gF S_zc m_zc) :=
 eokTold mixed named x2 (loopsOK_list rids lk_zc_115_3) 60 S_zc m_zc (by
  intro us v h; unfold m_zc at h; split at h
  ·rename_i v0 v1 v2 v3 v4 v5; exact q_zc v0 v1 v2 v3 v4 v5
  ·cases h) false
noncomputable abbrev X3 : Ext := extT [(106, (gF S_zc m_zc))] X2
theorem x3 : XOK Tryz.prog X3 := xok1 x2 e_zc

/-- levee/key.Compare -/
def L_zd : FuncId → Nat → Option (List Nat) := liveT [(105, 2, [0, 1, 2, 11, 12, 13]), (105, 1000002, [0, 1]), (105, 2000002, [6])]
def M_zd : FuncId → Bool := fun _ => false
noncomputable def rd_zd_105_2 : List U → Rt
 | [.l v0, .l v1, .l v2, .i v3, .i v4] =>
  (.test (decide (v4 < v3))
  (.test (inR v4 (ln v2))
  (.test (decide (v4 ≥ ln v1))
  (.stop 0 [.i ((1 : Int))])
  (.test (inR v4 (ln v1))
  (let r0 : Rs := (Rt.res (m_zc [U.i (cI (el v2 v4) 0), U.i (cI (el v2 v4) 1), U.s (cS (el v2 v4) 2), U.i (cI (el v1 v4) 0), U.i (cI (el v1 v4) 1), U.s (cS (el v1 v4) 2)]))
  (.test (ok r0 0)
  (.test (uI (out r0 0) 0 != (0 : Int))
  (.stop 0 [.i (uI (out r0 0) 0)])
  (.next [.l v0, .l v1, .l v2, .i v3, .i (w64 (v4 + (1 : Int)))]))
  .fail))
  .fail))
  .fail)
  (.stop 1 [.l v0, .l v1]))
 | _ => .fail
def sp_zd_105_2 : LSp := ⟨39, ⟨[(0, .one (.l 39)), (1, .one (.l 39)), (2, .fn 106 []), (11, .one (.l 39)), (12, .one (.i .i64)), (13, .one (.i .i64))], []⟩, [(.ret, ⟨[(6, .one (.i .i64))], []⟩), (.exit 0, ⟨[(0, .one (.l 39)), (1, .one (.l 39))], []⟩)]⟩
set_option maxRecDepth 100000 in
theorem rq_zd_105_2 (v0 v1 v2 : List (List PV)) (v3 v4 : Int) : runK br Tryz.prog (callK br Tryz.prog X3 M_zd L_zd (lsT []) 40) M_zd (lsT [] 105 0) 40 0 (L_zd 105) (bodyOf Tryz.prog 105 2) (sp_zd_105_2.s.ts sp_zd_105_2.n [.l v0, .l v1, .l v2, .i v3, .i v4]) (sp_zd_105_2.s.h [.l v0, .l v1, .l v2, .i v3, .i v4]) (idc Tryz.prog 0 (L_zd 105) 2) =
  (rd_zd_105_2 [.l v0, .l v1, .l v2, .i v3, .i v4]).go br (fun us' => some (.normal, sp_zd_105_2.s.ts sp_zd_105_2.n us', sp_zd_105_2.s.h us')) sp_zd_105_2.fin := by
 rw [← callF_eq, ← runF_eq]; kernel_rfl
theorem lo_zd_105_2 {R : Type} : LoopTells Tryz.prog X3 M_zd L_zd 0 (L_zd 105) (bodyOf Tryz.prog 105 2) (gL (R := R) sp_zd_105_2 rd_zd_105_2 br) :=
 loopTold (callK_ev (loopsOK_list rids noneIn) 40) (lsokIn (loopsOK_list rids noneIn) 105 0 2) (by kernel_rfl) sp_zd_105_2 rd_zd_105_2 rfl (by kernel_rfl) (by
  intro us v h; unfold rd_zd_105_2 at h; split at h
  ·rename_i v0 v1 v2 v3 v4; exact rq_zd_105_2 v0 v1 v2 v3 v4
  ·cases h)
noncomputable abbrev ll_zd_105_2 {R : Type} : List (Nat × Nat × Nat × Smy R) := (105, 0, 2, gL sp_zd_105_2 rd_zd_105_2 br) :: []
theorem lk_zd_105_2 {R : Type} : ∀ e ∈ ll_zd_105_2 (R := R), LoopTells Tryz.prog X3 M_zd L_zd e.2.1 (L_zd e.1) (bodyOf Tryz.prog e.1 e.2.2.1) e.2.2.2 := List.forall_mem_cons.2 ⟨lo_zd_105_2, noneIn⟩
def S_zd : FSp := ⟨[.one (.l 39), .one (.l 39)], [], [], [([.one (.i .i64)], [])]⟩
noncomputable def m_zd : List U → Rt
 | [.l v0, .l v1] =>
  (let r0 : Rs := (lres rd_zd_105_2 [U.l v0, U.l v1, U.l v0, U.i (ln v0), U.i (0 : Int)])
  (.test (ok r0 0)
  (.stop 0 [.i (uI (out r0 0) 0)])
  (.test (ok r0 1)
  (.test (decide (ln (uL (out r0 1) 0) < ln (uL (out r0 1) 1)))
  (.stop 0 [.i ((-1 : Int))])
  (.stop 0 [.i ((0 : Int))]))
  .fail)))
 | _ => .fail
set_option maxRecDepth 100000 in
theorem q_zd (v0 v1 : List (List PV)) : callK br Tryz.prog X3 M_zd L_zd (lsT ll_zd_105_2) 60 95 (encs [.l v0, .l v1] 0 S_zd.ap) (encH [.l v0, .l v1] (ws S_zd.ap) S_zd.ah) (fun y => fixR Tryz.prog S_zd.plan S_zd.ah.length y) =
  (m_zd [.l v0, .l v1]).go br (fun _ => none) S_zd.fin := by
 rw [← callF_eq]; kernel_rfl
theorem e_zd : EOK Tryz.prog 95 (gF S_zd m_zd) :=
 eokTold mixed named x3 (loopsOK_list rids lk_zd_105_2) 60 S_zd m_zd (by
  intro us v h; unfold m_zd at h; split at h
  ·rename_i v0 v1; exact q_zd v0 v1
  ·cases h) false
noncomputable abbrev X4 : Ext := extT [(95, (gF S_zd m_zd))] X3
theorem x4 : XOK Tryz.prog X4 := xok1 x3 e_zd

/-- levee/row.Compare -/
def L_ze : FuncId → Nat → Option (List Nat) := liveT []
def M_ze : FuncId → Bool := fun _ => false
def S_ze : FSp := ⟨[.one (.l 39), .one (.l 39)], [], [], [([.one (.i .i64)], [])]⟩
noncomputable def m_ze : List U → Rt
 | [.l v0, .l v1] =>
  (let r0 : Rs := (Rt.res (m_zd [U.l v0, U.l v1]))
  (.test (ok r0 0)
  (.stop 0 [.i (uI (out r0 0) 0)])
  .fail))
 | _ => .fail
set_option maxRecDepth 100000 in
theorem q_ze (v0 v1 : List (List PV)) : callK br Tryz.prog X4 M_ze L_ze (lsT []) 60 74 (encs [.l v0, .l v1] 0 S_ze.ap) (encH [.l v0, .l v1] (ws S_ze.ap) S_ze.ah) (fun y => fixR Tryz.prog S_ze.plan S_ze.ah.length y) =
  (m_ze [.l v0, .l v1]).go br (fun _ => none) S_ze.fin := by
 rw [← callF_eq]; kernel_rfl
theorem e_ze : EOK Tryz.prog 74 (gF S_ze m_ze) :=
 eokTold mixed named x4 (loopsOK_list rids noneIn) 60 S_ze m_ze (by
  intro us v h; unfold m_ze at h; split at h
  ·rename_i v0 v1; exact q_ze v0 v1
  ·cases h) false
noncomputable abbrev X5 : Ext := extT [(74, (gF S_ze m_ze))] X4
theorem x5 : XOK Tryz.prog X5 := xok1 x4 e_ze

/-- slices.insertionSortCmpFunc[levee/api.Count] -/
def L_zf : FuncId → Nat → Option (List Nat) := liveT [(107, 4, [0, 1, 2, 3, 8, 9]), (107, 1000004, [0, 1, 2, 3, 8]), (107, 2000004, []), (107, 1, [0, 1, 2, 3, 8]), (107, 1000001, []), (107, 2000001, [])]
def M_zf : FuncId → Bool := fun _ => false
noncomputable def rd_zf_107_4 : List U → Rt
 | [.i v0, .i v1, .i v2, .i v3, .l v4] =>
  (.test (decide (v3 > v0))
  (.test (inR v3 (ln v4))
  (.test (decide (Int.toNat v3 < List.length v4))
  (.test (inR (w64 (v3 - (1 : Int))) (ln v4))
  (.test (decide (Int.toNat (w64 (v3 - (1 : Int))) < List.length v4))
  (let r0 : Rs := (Rt.res (m_ze [U.l (cL (el v4 v3) 0), U.l (cL (el v4 (w64 (v3 - (1 : Int)))) 0)]))
  (.test (ok r0 0)
  (.test (decide (uI (out r0 0) 0 < (0 : Int)))
  (.test (inR (w64 (v3 - (1 : Int))) (ln v4))
  (.test (decide (Int.toNat (w64 (v3 - (1 : Int))) < List.length v4))
  (.test (inR v3 (ln v4))
  (.test (decide (Int.toNat v3 < List.length v4))
  (.test (inR v3 (ln v4))
  (.test (decide (Int.toNat v3 < List.length v4))
  (.test (inR (w64 (v3 - (1 : Int))) (ln (List.set v4 (Int.toNat v3) (setCells (el v4 v3) 0 [PV.lst 39 (cL (el v4 (w64 (v3 - (1 : Int)))) 0), pI (cI (el v4 (w64 (v3 - (1 : Int)))) 1)]))))
  (.test (decide (Int.toNat (w64 (v3 - (1 : Int))) < List.length (List.set v4 (Int.toNat v3) (setCells (el v4 v3) 0 [PV.lst 39 (cL (el v4 (w64 (v3 - (1 : Int)))) 0), pI (cI (el v4 (w64 (v3 - (1 : Int)))) 1)]))))
  (.next [.i v0, .i v1, .i v2, .i (w64 (v3 - (1 : Int))), .l (List.set (List.set v4 (Int.toNat v3) (setCells (el v4 v3) 0 [PV.lst 39 (cL (el v4 (w64 (v3 - (1 : Int)))) 0), pI (cI (el v4 (w64 (v3 - (1 : Int)))) 1)])) (Int.toNat (w64 (v3 - (1 : Int)))) (setCells (el (List.set v4 (Int.toNat v3) (setCells (el v4 v3) 0 [PV.lst 39 (cL (el v4 (w64 (v3 - (1 : Int)))) 0), pI (cI (el v4 (w64 (v3 - (1 : Int)))) 1)])) (w64 (v3 - (1 : Int)))) 0 [PV.lst 39 (cL (el v4 v3) 0), pI (cI (el v4 v3) 1)]))])
  .fail)
  .fail)
  .fail)
  .fail)
  .fail)
  .fail)
  .fail)
  .fail)
  (.stop 0 [.i v0, .i v1, .i v2, .l v4]))
  .fail))
  .fail)
  .fail)
  .fail)
  .fail)
  (.stop 0 [.i v0, .i v1, .i v2, .l v4]))
 | _ => .fail
def sp_zf_107_4 : LSp := ⟨53, ⟨[(0, .one (.all 0)), (1, .one (.i .i64)), (2, .one (.i .i64)), (3, .fn 77 []), (8, .one (.i .i64)), (9, .one (.i .i64))], [.arr 49 true]⟩, [(.exit 2, ⟨[(0, .one (.all 0)), (1, .one (.i .i64)), (2, .one (.i .i64)), (3, .fn 77 []), (8, .one (.i .i64))], [.arr 49 true]⟩)]⟩
set_option maxRecDepth 100000 in
theorem rq_zf_107_4 (v0 v1 v2 v3 : Int) (v4 : List (List PV)) : runK br Tryz.prog (callK br Tryz.prog X5 M_zf L_zf (lsT []) 40) M_zf (lsT [] 107 1) 40 1 (L_zf 107) (bodyOf Tryz.prog 107 4) (sp_zf_107_4.s.ts sp_zf_107_4.n [.i v0, .i v1, .i v2, .i v3, .l v4]) (sp_zf_107_4.s.h [.i v0, .i v1, .i v2, .i v3, .l v4]) (idc Tryz.prog 1 (L_zf 107) 4) =
  (rd_zf_107_4 [.i v0, .i v1, .i v2, .i v3, .l v4]).go br (fun us' => some (.normal, sp_zf_107_4.s.ts sp_zf_107_4.n us', sp_zf_107_4.s.h us')) sp_zf_107_4.fin := by
 rw [← callF_eq, ← runF_eq]; kernel_rfl
theorem lo_zf_107_4 {R : Type} : LoopTells Tryz.prog X5 M_zf L_zf 1 (L_zf 107) (bodyOf Tryz.prog 107 4) (gL (R := R) sp_zf_107_4 rd_zf_107_4 br) :=
 loopTold (callK_ev (loopsOK_list rids noneIn) 40) (lsokIn (loopsOK_list rids noneIn) 107 1 4) (by kernel_rfl) sp_zf_107_4 rd_zf_107_4 rfl (by kernel_rfl) (by
  intro us v h; unfold rd_zf_107_4 at h; split at h
  ·rename_i v0 v1 v2 v3 v4; exact rq_zf_107_4 v0 v1 v2 v3 v4
  ·cases h)
noncomputable abbrev ll_zf_107_4 {R : Type} : List (Nat × Nat × Nat × Smy R) := (107, 1, 4, gL sp_zf_107_4 rd_zf_107_4 br) :: []
theorem lk_zf_107_4 {R : Type} : ∀ e ∈ ll_zf_107_4 (R := R), LoopTells Tryz.prog X5 M_zf L_zf e.2.1 (L_zf e.1) (bodyOf Tryz.prog e.1 e.2.2.1) e.2.2.2 := List.forall_mem_cons.2 ⟨lo_zf_107_4, noneIn⟩
noncomputable def rd_zf_107_1 : List U → Rt
 | [.i v0, .i v1, .i v2, .l v3] =>
  (.test (decide (v2 < v1))
  (let r0 : Rs := (lres rd_zf_107_4 [U.i v0, U.i v1, U.i v2, U.i v2, U.l v3])
  (.test (ok r0 0)
  (.next [.i (uI (out r0 0) 0), .i (uI (out r0 0) 1), .i (w64 (uI (out r0 0) 2 + (1 : Int))), .l (uL (out r0 0) 3)])
  .fail))
  (.stop 0 [.l v3]))
 | _ => .fail
def sp_zf_107_1 : LSp := ⟨53, ⟨[(0, .one (.all 0)), (1, .one (.i .i64)), (2, .one (.i .i64)), (3, .fn 77 []), (8, .one (.i .i64))], [.arr 49 true]⟩, [(.exit 0, ⟨[], [.arr 49 true]⟩)]⟩
set_option maxRecDepth 100000 in
theorem rq_zf_107_1 (v0 v1 v2 : Int) (v3 : List (List PV)) : runK br Tryz.prog (callK br Tryz.prog X5 M_zf L_zf (lsT ll_zf_107_4) 40) M_zf (lsT ll_zf_107_4 107 1) 40 1 (L_zf 107) (bodyOf Tryz.prog 107 1) (sp_zf_107_1.s.ts sp_zf_107_1.n [.i v0, .i v1, .i v2, .l v3]) (sp_zf_107_1.s.h [.i v0, .i v1, .i v2, .l v3]) (idc Tryz.prog 1 (L_zf 107) 1) =
  (rd_zf_107_1 [.i v0, .i v1, .i v2, .l v3]).go br (fun us' => some (.normal, sp_zf_107_1.s.ts sp_zf_107_1.n us', sp_zf_107_1.s.h us')) sp_zf_107_1.fin := by
 rw [← callF_eq, ← runF_eq]; kernel_rfl
theorem lo_zf_107_1 {R : Type} : LoopTells Tryz.prog X5 M_zf L_zf 1 (L_zf 107) (bodyOf Tryz.prog 107 1) (gL (R := R) sp_zf_107_1 rd_zf_107_1 br) :=
 loopTold (callK_ev (loopsOK_list rids lk_zf_107_4) 40) (lsokIn (loopsOK_list rids lk_zf_107_4) 107 1 1) (by kernel_rfl) sp_zf_107_1 rd_zf_107_1 rfl (by kernel_rfl) (by
  intro us v h; unfold rd_zf_107_1 at h; split at h
  ·rename_i v0 v1 v2 v3; exact rq_zf_107_1 v0 v1 v2 v3
  ·cases h)
noncomputable abbrev ll_zf_107_1 {R : Type} : List (Nat × Nat × Nat × Smy R) := (107, 1, 1, gL sp_zf_107_1 rd_zf_107_1 br) :: ll_zf_107_4
theorem lk_zf_107_1 {R : Type} : ∀ e ∈ ll_zf_107_1 (R := R), LoopTells Tryz.prog X5 M_zf L_zf e.2.1 (L_zf e.1) (bodyOf Tryz.prog e.1 e.2.2.1) e.2.2.2 := List.forall_mem_cons.2 ⟨lo_zf_107_1, lk_zf_107_4⟩
def S_zf : FSp := ⟨[.one (.all 0), .one (.i .i64), .one (.i .i64), .fn 77 []], [.arr 49 true], [], [([], [.arr 49 true])]⟩
noncomputable def m_zf : List U → Rt
 | [.i v0, .i v1, .l v2] =>
  (let r0 : Rs := (lres rd_zf_107_1 [U.i v0, U.i v1, U.i (w64 (v0 + (1 : Int))), U.l v2])
  (.test (ok r0 0)
  (.stop 0 [.l (uL (out r0 0) 0)])
  .fail))
 | _ => .fail
set_option maxRecDepth 100000 in
theorem q_zf (v0 v1 : Int) (v2 : List (List PV)) : callK br Tryz.prog X5 M_zf L_zf (lsT ll_zf_107_1) 60 107 (encs [.i v0, .i v1, .l v2] 0 S_zf.ap) (encH [.i v0, .i v1, .l v2] (ws S_zf.ap) S_zf.ah) (fun y => fixR Tryz.prog S_zf.plan S_zf.ah.length y) =
  (m_zf [.i v0, .i v1, .l v2]).go br (fun _ => none) S_zf.fin := by
 rw [← callF_eq]; kernel_rfl
theorem e_zf : EOK Tryz.prog 107 (gF S_zf m_zf) :=
 eokTold mixed named x5 (loopsOK_list rids lk_zf_107_1) 60 S_zf m_zf (by
  intro us v h; unfold m_zf at h; split at h
  ·rename_i v0 v1 v2; exact q_zf v0 v1 v2
  ·cases h) false
noncomputable abbrev X6 : Ext := extT [(107, (gF S_zf m_zf))] X5
theorem x6 : XOK Tryz.prog X6 := xok1 x5 e_zf

/-- slices.swapRangeCmpFunc[levee/api.Count] -/
def L_zg : FuncId → Nat → Option (List Nat) := liveT [(129, 1, [0, 1, 2, 3, 10]), (129, 1000001, []), (129, 2000001, [])]
def M_zg : FuncId → Bool := fun _ => false
noncomputable def rd_zg_129_1 : List U → Rt
 | [.i v0, .i v1, .i v2, .i v3, .l v4] =>
  (.test (decide (v3 < v2))
  (.test (inR (w64 (v1 + v3)) (ln v4))
  (.test (decide (Int.toNat (w64 (v1 + v3)) < List.length v4))
  (.test (inR (w64 (v0 + v3)) (ln v4))
  (.test (decide (Int.toNat (w64 (v0 + v3)) < List.length v4))
  (.test (inR (w64 (v0 + v3)) (ln v4))
  (.test (decide (Int.toNat (w64 (v0 + v3)) < List.length v4))
  (.test (inR (w64 (v1 + v3)) (ln (List.set v4 (Int.toNat (w64 (v0 + v3))) (setCells (el v4 (w64 (v0 + v3))) 0 [PV.lst 39 (cL (el v4 (w64 (v1 + v3))) 0), pI (cI (el v4 (w64 (v1 + v3))) 1)]))))
  (.test (decide (Int.toNat (w64 (v1 + v3)) < List.length (List.set v4 (Int.toNat (w64 (v0 + v3))) (setCells (el v4 (w64 (v0 + v3))) 0 [PV.lst 39 (cL (el v4 (w64 (v1 + v3))) 0), pI (cI (el v4 (w64 (v1 + v3))) 1)]))))
  (.next [.i v0, .i v1, .i v2, .i (w64 (v3 + (1 : Int))), .l (List.set (List.set v4 (Int.toNat (w64 (v0 + v3))) (setCells (el v4 (w64 (v0 + v3))) 0 [PV.lst 39 (cL (el v4 (w64 (v1 + v3))) 0), pI (cI (el v4 (w64 (v1 + v3))) 1)])) (Int.toNat (w64 (v1 + v3))) (setCells (el (List.set v4 (Int.toNat (w64 (v0 + v3))) (setCells (el v4 (w64 (v0 + v3))) 0 [PV.lst 39 (cL (el v4 (w64 (v1 + v3))) 0), pI (cI (el v4 (w64 (v1 + v3))) 1)])) (w64 (v1 + v3))) 0 [PV.lst 39 (cL (el v4 (w64 (v0 + v3))) 0), pI (cI (el v4 (w64 (v0 + v3))) 1)]))])
  .fail)
  .fail)
  .fail)
  .fail)
  .fail)
  .fail)
  .fail)
  .fail)
  (.stop 0 [.l v4]))
 | _ => .fail
def sp_zg_129_1 : LSp := ⟨38, ⟨[(0, .one (.all 0)), (1, .one (.i .i64)), (2, .one (.i .i64)), (3, .one (.i .i64)), (10, .one (.i .i64))], [.arr 49 true]⟩, [(.exit 0, ⟨[], [.arr 49 true]⟩)]⟩
set_option maxRecDepth 100000 in
theorem rq_zg_129_1 (v0 v1 v2 v3 : Int) (v4 : List (List PV)) : runK br Tryz.prog (callK br Tryz.prog X6 M_zg L_zg (lsT []) 40) M_zg (lsT [] 129 1) 40 1 (L_zg 129) (bodyOf Tryz.prog 129 1) (sp_zg_129_1.s.ts sp_zg_129_1.n [.i v0, .i v1, .i v2, .i v3, .l v4]) (sp_zg_129_1.s.h [.i v0, .i v1, .i v2, .i v3, .l v4]) (idc Tryz.prog 1 (L_zg 129) 1) =
  (rd_zg_129_1 [.i v0, .i v1, .i v2, .i v3, .l v4]).go br (fun us' => some (.normal, sp_zg_129_1.s.ts sp_zg_129_1.n us', sp_zg_129_1.s.h us')) sp_zg_129_1.fin := by
 rw [← callF_eq, ← runF_eq]; kernel_rfl
theorem lo_zg_129_1 {R : Type} : LoopTells Tryz.prog X6 M_zg L_zg 1 (L_zg 129) (bodyOf Tryz.prog 129 1) (gL (R := R) sp_zg_129_1 rd_zg_129_1 br) :=
 loopTold (callK_ev (loopsOK_list rids noneIn) 40) (lsokIn (loopsOK_list rids noneIn) 129 1 1) (by kernel_rfl) sp_zg_129_1 rd_zg_129_1 rfl (by kernel_rfl) (by
  intro us v h; unfold rd_zg_129_1 at h; split at h
  ·rename_i v0 v1 v2 v3 v4; exact rq_zg_129_1 v0 v1 v2 v3 v4
  ·cases h)
noncomputable abbrev ll_zg_129_1 {R : Type} : List (Nat × Nat × Nat × Smy R) := (129, 1, 1, gL sp_zg_129_1 rd_zg_129_1 br) :: []
theorem lk_zg_129_1 {R : Type} : ∀ e ∈ ll_zg_129_1 (R := R), LoopTells Tryz.prog X6 M_zg L_zg e.2.1 (L_zg e.1) (bodyOf Tryz.prog e.1 e.2.2.1) e.2.2.2 := List.forall_mem_cons.2 ⟨lo_zg_129_1, noneIn⟩
def S_zg : FSp := ⟨[.one (.all 0), .one (.i .i64), .one (.i .i64), .one (.i .i64), .fn 77 []], [.arr 49 true], [], [([], [.arr 49 true])]⟩
noncomputable def m_zg : List U → Rt
 | [.i v0, .i v1, .i v2, .l v3] =>
  (let r0 : Rs := (lres rd_zg_129_1 [U.i v0, U.i v1, U.i v2, U.i (0 : Int), U.l v3])
  (.test (ok r0 0)
  (.stop 0 [.l (uL (out r0 0) 0)])
  .fail))
 | _ => .fail
set_option maxRecDepth 100000 in
theorem q_zg (v0 v1 v2 : Int) (v3 : List (List PV)) : callK br Tryz.prog X6 M_zg L_zg (lsT ll_zg_129_1) 60 129 (encs [.i v0, .i v1, .i v2, .l v3] 0 S_zg.ap) (encH [.i v0, .i v1, .i v2, .l v3] (ws S_zg.ap) S_zg.ah) (fun y => fixR Tryz.prog S_zg.plan S_zg.ah.length y) =
  (m_zg [.i v0, .i v1, .i v2, .l v3]).go br (fun _ => none) S_zg.fin := by
 rw [← callF_eq]; kernel_rfl
theorem e_zg : EOK Tryz.prog 129 (gF S_zg m_zg) :=
 eokTold mixed named x6 (loopsOK_list rids lk_zg_129_1) 60 S_zg m_zg (by
  intro us v h; unfold m_zg at h; split at h
  ·rename_i v0 v1 v2 v3; exact q_zg v0 v1 v2 v3
  ·cases h) false
noncomputable abbrev X7 : Ext := extT [(129, (gF S_zg m_zg))] X6
theorem x7 : XOK Tryz.prog X7 := xok1 x6 e_zg

/-- slices.rotateCmpFunc[levee/api.Count] -/
def L_zh : FuncId → Nat → Option (List Nat) := liveT [(118, 2, [0, 2, 4, 10, 11]), (118, 1000002, [0, 2, 4, 10]), (118, 2000002, [])]
def M_zh : FuncId → Bool := fun f => f == 129
noncomputable def rd_zh_118_2 : List U → Rt
 | [.i v0, .i v1, .i v2, .l v3] =>
  (.test (v1 != v2)
  (.test (decide (v1 > v2))
  (let r0 : Rs := (Rt.res (m_zg [U.i (w64 (v0 - v1)), U.i v0, U.i v2, U.l v3]))
  (.test (ok r0 0)
  (.next [.i v0, .i (w64 (v1 - v2)), .i v2, .l (uL (out r0 0) 0)])
  .fail))
  (let r1 : Rs := (Rt.res (m_zg [U.i (w64 (v0 - v1)), U.i (w64 (w64 (v0 + v2) - v1)), U.i v1, U.l v3]))
  (.test (ok r1 0)
  (.next [.i v0, .i v1, .i (w64 (v2 - v1)), .l (uL (out r1 0) 0)])
  .fail)))
  (.stop 0 [.i v0, .i v1, .l v3]))
 | _ => .fail
def sp_zh_118_2 : LSp := ⟨58, ⟨[(0, .one (.all 0)), (2, .one (.i .i64)), (4, .fn 77 []), (10, .one (.i .i64)), (11, .one (.i .i64))], [.arr 49 true]⟩, [(.exit 0, ⟨[(0, .one (.all 0)), (2, .one (.i .i64)), (4, .fn 77 []), (10, .one (.i .i64))], [.arr 49 true]⟩)]⟩
set_option maxRecDepth 100000 in
theorem rq_zh_118_2 (v0 v1 v2 : Int) (v3 : List (List PV)) : runK br Tryz.prog (callK br Tryz.prog X7 M_zh L_zh (lsT []) 40) M_zh (lsT [] 118 1) 40 1 (L_zh 118) (bodyOf Tryz.prog 118 2) (sp_zh_118_2.s.ts sp_zh_118_2.n [.i v0, .i v1, .i v2, .l v3]) (sp_zh_118_2.s.h [.i v0, .i v1, .i v2, .l v3]) (idc Tryz.prog 1 (L_zh 118) 2) =
  (rd_zh_118_2 [.i v0, .i v1, .i v2, .l v3]).go br (fun us' => some (.normal, sp_zh_118_2.s.ts sp_zh_118_2.n us', sp_zh_118_2.s.h us')) sp_zh_118_2.fin := by
 rw [← callF_eq, ← runF_eq]; kernel_rfl
theorem lo_zh_118_2 {R : Type} : LoopTells Tryz.prog X7 M_zh L_zh 1 (L_zh 118) (bodyOf Tryz.prog 118 2) (gL (R := R) sp_zh_118_2 rd_zh_118_2 br) :=
 loopTold (callK_ev (loopsOK_list rids noneIn) 40) (lsokIn (loopsOK_list rids noneIn) 118 1 2) (by kernel_rfl) sp_zh_118_2 rd_zh_118_2 rfl (by kernel_rfl) (by
  intro us v h; unfold rd_zh_118_2 at h; split at h
  ·rename_i v0 v1 v2 v3; exact rq_zh_118_2 v0 v1 v2 v3
  ·cases h)
noncomputable abbrev ll_zh_118_2 {R : Type} : List (Nat × Nat × Nat × Smy R) := (118, 1, 2, gL sp_zh_118_2 rd_zh_118_2 br) :: []
theorem lk_zh_118_2 {R : Type} : ∀ e ∈ ll_zh_118_2 (R := R), LoopTells Tryz.prog X7 M_zh L_zh e.2.1 (L_zh e.1) (bodyOf Tryz.prog e.1 e.2.2.1) e.2.2.2 := List.forall_mem_cons.2 ⟨lo_zh_118_2, noneIn⟩
def S_zh : FSp := ⟨[.one (.all 0), .one (.i .i64), .one (.i .i64), .one (.i .i64), .fn 77 []], [.arr 49 true], [], [([], [.arr 49 true])]⟩
noncomputable def m_zh : List U → Rt
 | [.i v0, .i v1, .i v2, .l v3] =>
  (let r0 : Rs := (lres rd_zh_118_2 [U.i v1, U.i (w64 (v1 - v0)), U.i (w64 (v2 - v1)), U.l v3])
  (.test (ok r0 0)
  (let r1 : Rs := (Rt.res (m_zg [U.i (w64 (uI (out r0 0) 0 - uI (out r0 0) 1)), U.i (uI (out r0 0) 0), U.i (uI (out r0 0) 1), U.l (uL (out r0 0) 2)]))
  (.test (ok r1 0)
  (.stop 0 [.l (uL (out r1 0) 0)])
  .fail))
  .fail))
 | _ => .fail
set_option maxRecDepth 100000 in
theorem q_zh (v0 v1 v2 : Int) (v3 : List (List PV)) : callK br Tryz.prog X7 M_zh L_zh (lsT ll_zh_118_2) 60 118 (encs [.i v0, .i v1, .i v2, .l v3] 0 S_zh.ap) (encH [.i v0, .i v1, .i v2, .l v3] (ws S_zh.ap) S_zh.ah) (fun y => fixR Tryz.prog S_zh.plan S_zh.ah.length y) =
  (m_zh [.i v0, .i v1, .i v2, .l v3]).go br (fun _ => none) S_zh.fin := by
 rw [← callF_eq]; kernel_rfl
theorem e_zh : EOK Tryz.prog 118 (gF S_zh m_zh) :=
 eokTold mixed named x7 (loopsOK_list rids lk_zh_118_2) 60 S_zh m_zh (by
  intro us v h; unfold m_zh at h; split at h
  ·rename_i v0 v1 v2 v3; exact q_zh v0 v1 v2 v3
  ·cases h) false
noncomputable abbrev X8 : Ext := extT [(118, (gF S_zh m_zh))] X7
theorem x8 : XOK Tryz.prog X8 := xok1 x7 e_zh

/-- slices.symMergeCmpFunc[levee/api.Count] -/
def L_zi : FuncId → Nat → Option (List Nat) := liveT [(108, 3, [0, 1, 4, 10, 11]), (108, 1000003, [0, 1, 10]), (108, 2000003, []), (108, 9, [0, 10, 13]), (108, 1000009, []), (108, 2000009, []), (108, 15, [0, 2, 4, 14, 15]), (108, 1000015, [0, 2, 14]), (108, 2000015, []), (108, 21, [0, 14, 17]), (108, 1000021, []), (108, 2000021, []), (108, 33, [0, 1, 2, 3, 4, 18, 19, 20, 21, 22]), (108, 1000033, [0, 1, 2, 3, 4, 18, 19, 20]), (108, 2000033, [])]
def M_zi : FuncId → Bool := fun f => f == 108 || f == 118
def S_zi : FSp := ⟨[.one (.all 0), .one (.i .i64), .one (.i .i64), .one (.i .i64), .fn 77 []], [.arr 49 true], [], [([], [.arr 49 true])]⟩
noncomputable def rd_zi_108_3 : List U → Rt
 | [.i v0, .i v1, .i v2, .l v3] =>
  (.test (decide (v1 < v2))
  (.test (inR (w64 (Int.fdiv (IntKind.wrap IntKind.u64 (w64 (v1 + v2))) (2 : Int))) (ln v3))
  (.test (decide (Int.toNat (w64 (Int.fdiv (IntKind.wrap IntKind.u64 (w64 (v1 + v2))) (2 : Int))) < List.length v3))
  (.test (inR v0 (ln v3))
  (.test (decide (Int.toNat v0 < List.length v3))
  (let r0 : Rs := (Rt.res (m_ze [U.l (cL (el v3 (w64 (Int.fdiv (IntKind.wrap IntKind.u64 (w64 (v1 + v2))) (2 : Int)))) 0), U.l (cL (el v3 v0) 0)]))
  (.test (ok r0 0)
  (.test (decide (uI (out r0 0) 0 < (0 : Int)))
  (.next [.i v0, .i (w64 (w64 (Int.fdiv (IntKind.wrap IntKind.u64 (w64 (v1 + v2))) (2 : Int)) + (1 : Int))), .i v2, .l v3])
  (.next [.i v0, .i v1, .i (w64 (Int.fdiv (IntKind.wrap IntKind.u64 (w64 (v1 + v2))) (2 : Int))), .l v3]))
  .fail))
  .fail)
  .fail)
  .fail)
  .fail)
  (.stop 0 [.i v0, .i v1, .l v3]))
 | _ => .fail
def sp_zi_108_3 : LSp := ⟨220, ⟨[(0, .one (.all 0)), (1, .one (.i .i64)), (4, .fn 77 []), (10, .one (.i .i64)), (11, .one (.i .i64))], [.arr 49 true]⟩, [(.exit 0, ⟨[(0, .one (.all 0)), (1, .one (.i .i64)), (10, .one (.i .i64))], [.arr 49 true]⟩)]⟩
set_option maxRecDepth 100000 in
theorem rq_zi_108_3 (mr : List U → Rt) (v0 v1 v2 : Int) (v3 : List (List PV)) : runK br Tryz.prog (callK br Tryz.prog (extT [(108, gF S_zi mr)] X8) M_zi L_zi (lsT []) 40) M_zi (lsT [] 108 1) 40 1 (L_zi 108) (bodyOf Tryz.prog 108 3) (sp_zi_108_3.s.ts sp_zi_108_3.n [.i v0, .i v1, .i v2, .l v3]) (sp_zi_108_3.s.h [.i v0, .i v1, .i v2, .l v3]) (idc Tryz.prog 1 (L_zi 108) 3) =
  (rd_zi_108_3 [.i v0, .i v1, .i v2, .l v3]).go br (fun us' => some (.normal, sp_zi_108_3.s.ts sp_zi_108_3.n us', sp_zi_108_3.s.h us')) sp_zi_108_3.fin := by
 rw [← callF_eq, ← runF_eq]; kernel_rfl
theorem lo_zi_108_3 {R : Type} (mr : List U → Rt) : LoopTells Tryz.prog (extT [(108, gF S_zi mr)] X8) M_zi L_zi 1 (L_zi 108) (bodyOf Tryz.prog 108 3) (gL (R := R) sp_zi_108_3 rd_zi_108_3 br) :=
 loopTold (callK_ev (loopsOK_list rids noneIn) 40) (lsokIn (loopsOK_list rids noneIn) 108 1 3) (by kernel_rfl) sp_zi_108_3 rd_zi_108_3 rfl (by kernel_rfl) (by
  intro us v h; unfold rd_zi_108_3 at h; split at h
  ·rename_i v0 v1 v2 v3; exact rq_zi_108_3 mr v0 v1 v2 v3
  ·cases h)
noncomputable abbrev ll_zi_108_3 {R : Type} : List (Nat × Nat × Nat × Smy R) := (108, 1, 3, gL sp_zi_108_3 rd_zi_108_3 br) :: []
theorem lk_zi_108_3 {R : Type} (mr : List U → Rt) : ∀ e ∈ ll_zi_108_3 (R := R), LoopTells Tryz.prog (extT [(108, gF S_zi mr)] X8) M_zi L_zi e.2.1 (L_zi e.1) (bodyOf Tryz.prog e.1 e.2.2.1) e.2.2.2 := List.forall_mem_cons.2 ⟨lo_zi_108_3 mr, noneIn⟩
noncomputable def rd_zi_108_9 : List U → Rt
 | [.i v0, .i v1, .l v2] =>
  (.test (decide (v1 < w64 (v0 - (1 : Int))))
  (.test (inR (w64 (v1 + (1 : Int))) (ln v2))
  (.test (decide (Int.toNat (w64 (v1 + (1 : Int))) < List.length v2))
  (.test (inR v1 (ln v2))
  (.test (decide (Int.toNat v1 < List.length v2))
  (.test (inR v1 (ln v2))
  (.test (decide (Int.toNat v1 < List.length v2))
  (.test (inR (w64 (v1 + (1 : Int))) (ln (List.set v2 (Int.toNat v1) (setCells (el v2 v1) 0 [PV.lst 39 (cL (el v2 (w64 (v1 + (1 : Int)))) 0), pI (cI (el v2 (w64 (v1 + (1 : Int)))) 1)]))))
  (.test (decide (Int.toNat (w64 (v1 + (1 : Int))) < List.length (List.set v2 (Int.toNat v1) (setCells (el v2 v1) 0 [PV.lst 39 (cL (el v2 (w64 (v1 + (1 : Int)))) 0), pI (cI (el v2 (w64 (v1 + (1 : Int)))) 1)]))))
  (.next [.i v0, .i (w64 (v1 + (1 : Int))), .l (List.set (List.set v2 (Int.toNat v1) (setCells (el v2 v1) 0 [PV.lst 39 (cL (el v2 (w64 (v1 + (1 : Int)))) 0), pI (cI (el v2 (w64 (v1 + (1 : Int)))) 1)])) (Int.toNat (w64 (v1 + (1 : Int)))) (setCells (el (List.set v2 (Int.toNat v1) (setCells (el v2 v1) 0 [PV.lst 39 (cL (el v2 (w64 (v1 + (1 : Int)))) 0), pI (cI (el v2 (w64 (v1 + (1 : Int)))) 1)])) (w64 (v1 + (1 : Int)))) 0 [PV.lst 39 (cL (el v2 v1) 0), pI (cI (el v2 v1) 1)]))])
  .fail)
  .fail)
  .fail)
  .fail)
  .fail)
  .fail)
  .fail)
  .fail)
  (.stop 0 [.l v2]))
 | _ => .fail
def sp_zi_108_9 : LSp := ⟨220, ⟨[(0, .one (.all 0)), (10, .one (.i .i64)), (13, .one (.i .i64))], [.arr 49 true]⟩, [(.exit 2, ⟨[], [.arr 49 true]⟩)]⟩
set_option maxRecDepth 100000 in
theorem rq_zi_108_9 (mr : List U → Rt) (v0 v1 : Int) (v2 : List (List PV)) : runK br Tryz.prog (callK br Tryz.prog (extT [(108, gF S_zi mr)] X8) M_zi L_zi (lsT ll_zi_108_3) 40) M_zi (lsT ll_zi_108_3 108 1) 40 1 (L_zi 108) (bodyOf Tryz.prog 108 9) (sp_zi_108_9.s.ts sp_zi_108_9.n [.i v0, .i v1, .l v2]) (sp_zi_108_9.s.h [.i v0, .i v1, .l v2]) (idc Tryz.prog 1 (L_zi 108) 9) =
  (rd_zi_108_9 [.i v0, .i v1, .l v2]).go br (fun us' => some (.normal, sp_zi_108_9.s.ts sp_zi_108_9.n us', sp_zi_108_9.s.h us')) sp_zi_108_9.fin := by
 rw [← callF_eq, ← runF_eq]; kernel_rfl
theorem lo_zi_108_9 {R : Type} (mr : List U → Rt) : LoopTells Tryz.prog (extT [(108, gF S_zi mr)] X8) M_zi L_zi 1 (L_zi 108) (bodyOf Tryz.prog 108 9) (gL (R := R) sp_zi_108_9 rd_zi_108_9 br) :=
 loopTold (callK_ev (loopsOK_list rids (lk_zi_108_3 mr)) 40) (lsokIn (loopsOK_list rids (lk_zi_108_3 mr)) 108 1 9) (by kernel_rfl) sp_zi_108_9 rd_zi_108_9 rfl (by kernel_rfl) (by
  intro us v h; unfold rd_zi_108_9 at h; split at h
  ·rename_i v0 v1 v2; exact rq_zi_108_9 mr v0 v1 v2
  ·cases h)
noncomputable abbrev ll_zi_108_9 {R : Type} : List (Nat × Nat × Nat × Smy R) := (108, 1, 9, gL sp_zi_108_9 rd_zi_108_9 br) :: ll_zi_108_3
theorem lk_zi_108_9 {R : Type} (mr : List U → Rt) : ∀ e ∈ ll_zi_108_9 (R := R), LoopTells Tryz.prog (extT [(108, gF S_zi mr)] X8) M_zi L_zi e.2.1 (L_zi e.1) (bodyOf Tryz.prog e.1 e.2.2.1) e.2.2.2 := List.forall_mem_cons.2 ⟨lo_zi_108_9 mr, (lk_zi_108_3 mr)⟩
noncomputable def rd_zi_108_15 : List U → Rt
 | [.i v0, .i v1, .i v2, .l v3] =>
  (.test (decide (v1 < v2))
  (.test (inR v0 (ln v3))
  (.test (decide (Int.toNat v0 < List.length v3))
  (.test (inR (w64 (Int.fdiv (IntKind.wrap IntKind.u64 (w64 (v1 + v2))) (2 : Int))) (ln v3))
  (.test (decide (Int.toNat (w64 (Int.fdiv (IntKind.wrap IntKind.u64 (w64 (v1 + v2))) (2 : Int))) < List.length v3))
  (let r0 : Rs := (Rt.res (m_ze [U.l (cL (el v3 v0) 0), U.l (cL (el v3 (w64 (Int.fdiv (IntKind.wrap IntKind.u64 (w64 (v1 + v2))) (2 : Int)))) 0)]))
  (.test (ok r0 0)
  (.test (!decide (uI (out r0 0) 0 < (0 : Int)))
  (.next [.i v0, .i (w64 (w64 (Int.fdiv (IntKind.wrap IntKind.u64 (w64 (v1 + v2))) (2 : Int)) + (1 : Int))), .i v2, .l v3])
  (.next [.i v0, .i v1, .i (w64 (Int.fdiv (IntKind.wrap IntKind.u64 (w64 (v1 + v2))) (2 : Int))), .l v3]))
  .fail))
  .fail)
  .fail)
  .fail)
  .fail)
  (.stop 0 [.i v0, .i v1, .l v3]))
 | _ => .fail
def sp_zi_108_15 : LSp := ⟨220, ⟨[(0, .one (.all 0)), (2, .one (.i .i64)), (4, .fn 77 []), (14, .one (.i .i64)), (15, .one (.i .i64))], [.arr 49 true]⟩, [(.exit 4, ⟨[(0, .one (.all 0)), (2, .one (.i .i64)), (14, .one (.i .i64))], [.arr 49 true]⟩)]⟩
set_option maxRecDepth 100000 in
theorem rq_zi_108_15 (mr : List U → Rt) (v0 v1 v2 : Int) (v3 : List (List PV)) : runK br Tryz.prog (callK br Tryz.prog (extT [(108, gF S_zi mr)] X8) M_zi L_zi (lsT ll_zi_108_9) 40) M_zi (lsT ll_zi_108_9 108 1) 40 1 (L_zi 108) (bodyOf Tryz.prog 108 15) (sp_zi_108_15.s.ts sp_zi_108_15.n [.i v0, .i v1, .i v2, .l v3]) (sp_zi_108_15.s.h [.i v0, .i v1, .i v2, .l v3]) (idc Tryz.prog 1 (L_zi 108) 15) =
  (rd_zi_108_15 [.i v0, .i v1, .i v2, .l v3]).go br (fun us' => some (.normal, sp_zi_108_15.s.ts sp_zi_108_15.n us', sp_zi_108_15.s.h us')) sp_zi_108_15.fin := by
 rw [← callF_eq, ← runF_eq]; kernel_rfl
theorem lo_zi_108_15 {R : Type} (mr : List U → Rt) : LoopTells Tryz.prog (extT [(108, gF S_zi mr)] X8) M_zi L_zi 1 (L_zi 108) (bodyOf Tryz.prog 108 15) (gL (R := R) sp_zi_108_15 rd_zi_108_15 br) :=
 loopTold (callK_ev (loopsOK_list rids (lk_zi_108_9 mr)) 40) (lsokIn (loopsOK_list rids (lk_zi_108_9 mr)) 108 1 15) (by kernel_rfl) sp_zi_108_15 rd_zi_108_15 rfl (by kernel_rfl) (by
  intro us v h; unfold rd_zi_108_15 at h; split at h
  ·rename_i v0 v1 v2 v3; exact rq_zi_108_15 mr v0 v1 v2 v3
  ·cases h)
noncomputable abbrev ll_zi_108_15 {R : Type} : List (Nat × Nat × Nat × Smy R) := (108, 1, 15, gL sp_zi_108_15 rd_zi_108_15 br) :: ll_zi_108_9
theorem lk_zi_108_15 {R : Type} (mr : List U → Rt) : ∀ e ∈ ll_zi_108_15 (R := R), LoopTells Tryz.prog (extT [(108, gF S_zi mr)] X8) M_zi L_zi e.2.1 (L_zi e.1) (bodyOf Tryz.prog e.1 e.2.2.1) e.2.2.2 := List.forall_mem_cons.2 ⟨lo_zi_108_15 mr, (lk_zi_108_9 mr)⟩
noncomputable def rd_zi_108_21 : List U → Rt
 | [.i v0, .i v1, .l v2] =>
  (.test (decide (v1 > v0))
  (.test (inR (w64 (v1 - (1 : Int))) (ln v2))
  (.test (decide (Int.toNat (w64 (v1 - (1 : Int))) < List.length v2))
  (.test (inR v1 (ln v2))
  (.test (decide (Int.toNat v1 < List.length v2))
  (.test (inR v1 (ln v2))
  (.test (decide (Int.toNat v1 < List.length v2))
  (.test (inR (w64 (v1 - (1 : Int))) (ln (List.set v2 (Int.toNat v1) (setCells (el v2 v1) 0 [PV.lst 39 (cL (el v2 (w64 (v1 - (1 : Int)))) 0), pI (cI (el v2 (w64 (v1 - (1 : Int)))) 1)]))))
  (.test (decide (Int.toNat (w64 (v1 - (1 : Int))) < List.length (List.set v2 (Int.toNat v1) (setCells (el v2 v1) 0 [PV.lst 39 (cL (el v2 (w64 (v1 - (1 : Int)))) 0), pI (cI (el v2 (w64 (v1 - (1 : Int)))) 1)]))))
  (.next [.i v0, .i (w64 (v1 - (1 : Int))), .l (List.set (List.set v2 (Int.toNat v1) (setCells (el v2 v1) 0 [PV.lst 39 (cL (el v2 (w64 (v1 - (1 : Int)))) 0), pI (cI (el v2 (w64 (v1 - (1 : Int)))) 1)])) (Int.toNat (w64 (v1 - (1 : Int)))) (setCells (el (List.set v2 (Int.toNat v1) (setCells (el v2 v1) 0 [PV.lst 39 (cL (el v2 (w64 (v1 - (1 : Int)))) 0), pI (cI (el v2 (w64 (v1 - (1 : Int)))) 1)])) (w64 (v1 - (1 : Int)))) 0 [PV.lst 39 (cL (el v2 v1) 0), pI (cI (el v2 v1) 1)]))])
  .fail)
  .fail)
  .fail)
  .fail)
  .fail)
  .fail)
  .fail)
  .fail)
  (.stop 0 [.l v2]))
 | _ => .fail
def sp_zi_108_21 : LSp := ⟨220, ⟨[(0, .one (.all 0)), (14, .one (.i .i64)), (17, .one (.i .i64))], [.arr 49 true]⟩, [(.exit 6, ⟨[], [.arr 49 true]⟩)]⟩
set_option maxRecDepth 100000 in
theorem rq_zi_108_21 (mr : List U → Rt) (v0 v1 : Int) (v2 : List (List PV)) : runK br Tryz.prog (callK br Tryz.prog (extT [(108, gF S_zi mr)] X8) M_zi L_zi (lsT ll_zi_108_15) 40) M_zi (lsT ll_zi_108_15 108 1) 40 1 (L_zi 108) (bodyOf Tryz.prog 108 21) (sp_zi_108_21.s.ts sp_zi_108_21.n [.i v0, .i v1, .l v2]) (sp_zi_108_21.s.h [.i v0, .i v1, .l v2]) (idc Tryz.prog 1 (L_zi 108) 21) =
  (rd_zi_108_21 [.i v0, .i v1, .l v2]).go br (fun us' => some (.normal, sp_zi_108_21.s.ts sp_zi_108_21.n us', sp_zi_108_21.s.h us')) sp_zi_108_21.fin := by
 rw [← callF_eq, ← runF_eq]; kernel_rfl
theorem lo_zi_108_21 {R : Type} (mr : List U → Rt) : LoopTells Tryz.prog (extT [(108, gF S_zi mr)] X8) M_zi L_zi 1 (L_zi 108) (bodyOf Tryz.prog 108 21) (gL (R := R) sp_zi_108_21 rd_zi_108_21 br) :=
 loopTold (callK_ev (loopsOK_list rids (lk_zi_108_15 mr)) 40) (lsokIn (loopsOK_list rids (lk_zi_108_15 mr)) 108 1 21) (by kernel_rfl) sp_zi_108_21 rd_zi_108_21 rfl (by kernel_rfl) (by
  intro us v h; unfold rd_zi_108_21 at h; split at h
  ·rename_i v0 v1 v2; exact rq_zi_108_21 mr v0 v1 v2
  ·cases h)
noncomputable abbrev ll_zi_108_21 {R : Type} : List (Nat × Nat × Nat × Smy R) := (108, 1, 21, gL sp_zi_108_21 rd_zi_108_21 br) :: ll_zi_108_15
theorem lk_zi_108_21 {R : Type} (mr : List U → Rt) : ∀ e ∈ ll_zi_108_21 (R := R), LoopTells Tryz.prog (extT [(108, gF S_zi mr)] X8) M_zi L_zi e.2.1 (L_zi e.1) (bodyOf Tryz.prog e.1 e.2.2.1) e.2.2.2 := List.forall_mem_cons.2 ⟨lo_zi_108_21 mr, (lk_zi_108_15 mr)⟩
noncomputable def rd_zi_108_33 : List U → Rt
 | [.i v0, .i v1, .i v2, .i v3, .i v4, .i v5, .i v6, .i v7, .l v8] =>
  (.test (decide (v5 < v6))
  (.test (inR (w64 (v7 - w64 (Int.fdiv (IntKind.wrap IntKind.u64 (w64 (v5 + v6))) (2 : Int)))) (ln v8))
  (.test (decide (Int.toNat (w64 (v7 - w64 (Int.fdiv (IntKind.wrap IntKind.u64 (w64 (v5 + v6))) (2 : Int)))) < List.length v8))
  (.test (inR (w64 (Int.fdiv (IntKind.wrap IntKind.u64 (w64 (v5 + v6))) (2 : Int))) (ln v8))
  (.test (decide (Int.toNat (w64 (Int.fdiv (IntKind.wrap IntKind.u64 (w64 (v5 + v6))) (2 : Int))) < List.length v8))
  (let r0 : Rs := (Rt.res (m_ze [U.l (cL (el v8 (w64 (v7 - w64 (Int.fdiv (IntKind.wrap IntKind.u64 (w64 (v5 + v6))) (2 : Int))))) 0), U.l (cL (el v8 (w64 (Int.fdiv (IntKind.wrap IntKind.u64 (w64 (v5 + v6))) (2 : Int)))) 0)]))
  (.test (ok r0 0)
  (.test (!decide (uI (out r0 0) 0 < (0 : Int)))
  (.next [.i v0, .i v1, .i v2, .i v3, .i v4, .i (w64 (w64 (Int.fdiv (IntKind.wrap IntKind.u64 (w64 (v5 + v6))) (2 : Int)) + (1 : Int))), .i v6, .i v7, .l v8])
  (.next [.i v0, .i v1, .i v2, .i v3, .i v4, .i v5, .i (w64 (Int.fdiv (IntKind.wrap IntKind.u64 (w64 (v5 + v6))) (2 : Int))), .i v7, .l v8]))
  .fail))
  .fail)
  .fail)
  .fail)
  .fail)
  (.stop 0 [.i v0, .i v1, .i v2, .i v3, .i v4, .i v5, .l v8]))
 | _ => .fail
def sp_zi_108_33 : LSp := ⟨220, ⟨[(0, .one (.all 0)), (1, .one (.i .i64)), (2, .one (.i .i64)), (3, .one (.i .i64)), (4, .fn 77 []), (18, .one (.i .i64)), (19, .one (.i .i64)), (20, .one (.i .i64)), (21, .one (.i .i64)), (22, .one (.i .i64))], [.arr 49 true]⟩, [(.exit 8, ⟨[(0, .one (.all 0)), (1, .one (.i .i64)), (2, .one (.i .i64)), (3, .one (.i .i64)), (4, .fn 77 []), (18, .one (.i .i64)), (19, .one (.i .i64)), (20, .one (.i .i64))], [.arr 49 true]⟩)]⟩
set_option maxRecDepth 100000 in
theorem rq_zi_108_33 (mr : List U → Rt) (v0 v1 v2 v3 v4 v5 v6 v7 : Int) (v8 : List (List PV)) : runK br Tryz.prog (callK br Tryz.prog (extT [(108, gF S_zi mr)] X8) M_zi L_zi (lsT ll_zi_108_21) 40) M_zi (lsT ll_zi_108_21 108 1) 40 1 (L_zi 108) (bodyOf Tryz.prog 108 33) (sp_zi_108_33.s.ts sp_zi_108_33.n [.i v0, .i v1, .i v2, .i v3, .i v4, .i v5, .i v6, .i v7, .l v8]) (sp_zi_108_33.s.h [.i v0, .i v1, .i v2, .i v3, .i v4, .i v5, .i v6, .i v7, .l v8]) (idc Tryz.prog 1 (L_zi 108) 33) =
  (rd_zi_108_33 [.i v0, .i v1, .i v2, .i v3, .i v4, .i v5, .i v6, .i v7, .l v8]).go br (fun us' => some (.normal, sp_zi_108_33.s.ts sp_zi_108_33.n us', sp_zi_108_33.s.h us')) sp_zi_108_33.fin := by
 rw [← callF_eq, ← runF_eq]; kernel_rfl
theorem lo_zi_108_33 {R : Type} (mr : List U → Rt) : LoopTells Tryz.prog (extT [(108, gF S_zi mr)] X8) M_zi L_zi 1 (L_zi 108) (bodyOf Tryz.prog 108 33) (gL (R := R) sp_zi_108_33 rd_zi_108_33 br) :=
 loopTold (callK_ev (loopsOK_list rids (lk_zi_108_21 mr)) 40) (lsokIn (loopsOK_list rids (lk_zi_108_21 mr)) 108 1 33) (by kernel_rfl) sp_zi_108_33 rd_zi_108_33 rfl (by kernel_rfl) (by
  intro us v h; unfold rd_zi_108_33 at h; split at h
  ·rename_i v0 v1 v2 v3 v4 v5 v6 v7 v8; exact rq_zi_108_33 mr v0 v1 v2 v3 v4 v5 v6 v7 v8
  ·cases h)
noncomputable abbrev ll_zi_108_33 {R : Type} : List (Nat × Nat × Nat × Smy R) := (108, 1, 33, gL sp_zi_108_33 rd_zi_108_33 br) :: ll_zi_108_21
theorem lk_zi_108_33 {R : Type} (mr : List U → Rt) : ∀ e ∈ ll_zi_108_33 (R := R), LoopTells Tryz.prog (extT [(108, gF S_zi mr)] X8) M_zi L_zi e.2.1 (L_zi e.1) (bodyOf Tryz.prog e.1 e.2.2.1) e.2.2.2 := List.forall_mem_cons.2 ⟨lo_zi_108_33 mr, (lk_zi_108_21 mr)⟩
noncomputable def s_zi (mr : List U → Rt) : List U → Rt
 | [.i v0, .i v1, .i v2, .l v3] =>
  (.test (w64 (v1 - v0) == (1 : Int))
  (let r0 : Rs := (lres rd_zi_108_3 [U.i v0, U.i v1, U.i v2, U.l v3])
  (.test (ok r0 0)
  (let r1 : Rs := (lres rd_zi_108_9 [U.i (uI (out r0 0) 1), U.i (uI (out r0 0) 0), U.l (uL (out r0 0) 2)])
  (.test (ok r1 0)
  (.stop 0 [.l (uL (out r1 0) 0)])
  .fail))
  .fail))
  (.test (w64 (v2 - v1) == (1 : Int))
  (let r2 : Rs := (lres rd_zi_108_15 [U.i v1, U.i v0, U.i v1, U.l v3])
  (.test (ok r2 0)
  (let r3 : Rs := (lres rd_zi_108_21 [U.i (uI (out r2 0) 1), U.i (uI (out r2 0) 0), U.l (uL (out r2 0) 2)])
  (.test (ok r3 0)
  (.stop 0 [.l (uL (out r3 0) 0)])
  .fail))
  .fail))
  (.test (decide (v1 > w64 (Int.fdiv (IntKind.wrap IntKind.u64 (w64 (v0 + v2))) (2 : Int))))
  (let r4 : Rs := (lres rd_zi_108_33 [U.i v0, U.i v1, U.i v2, U.i (w64 (Int.fdiv (IntKind.wrap IntKind.u64 (w64 (v0 + v2))) (2 : Int))), U.i (w64 (w64 (Int.fdiv (IntKind.wrap IntKind.u64 (w64 (v0 + v2))) (2 : Int)) + v1)), U.i (w64 (w64 (w64 (Int.fdiv (IntKind.wrap IntKind.u64 (w64 (v0 + v2))) (2 : Int)) + v1) - v2)), U.i (w64 (Int.fdiv (IntKind.wrap IntKind.u64 (w64 (v0 + v2))) (2 : Int))), U.i (w64 (w64 (w64 (Int.fdiv (IntKind.wrap IntKind.u64 (w64 (v0 + v2))) (2 : Int)) + v1) - (1 : Int))), U.l v3])
  (.test (ok r4 0)
  (.test (decide (uI (out r4 0) 5 < uI (out r4 0) 1))
  (.test (decide (uI (out r4 0) 1 < w64 (uI (out r4 0) 4 - uI (out r4 0) 5)))
  (let r5 : Rs := (Rt.res (m_zh [U.i (uI (out r4 0) 5), U.i (uI (out r4 0) 1), U.i (w64 (uI (out r4 0) 4 - uI (out r4 0) 5)), U.l (uL (out r4 0) 6)]))
  (.test (ok r5 0)
  (.test (decide (uI (out r4 0) 0 < uI (out r4 0) 5))
  (.test (decide (uI (out r4 0) 5 < uI (out r4 0) 3))
  (let r6 : Rs := (Rt.res (mr [U.i (uI (out r4 0) 0), U.i (uI (out r4 0) 5), U.i (uI (out r4 0) 3), U.l (uL (out r5 0) 0)]))
  (.test (ok r6 0)
  (.test (decide (uI (out r4 0) 3 < w64 (uI (out r4 0) 4 - uI (out r4 0) 5)))
  (.test (decide (w64 (uI (out r4 0) 4 - uI (out r4 0) 5) < uI (out r4 0) 2))
  (let r7 : Rs := (Rt.res (mr [U.i (uI (out r4 0) 3), U.i (w64 (uI (out r4 0) 4 - uI (out r4 0) 5)), U.i (uI (out r4 0) 2), U.l (uL (out r6 0) 0)]))
  (.test (ok r7 0)
  (.stop 0 [.l (uL (out r7 0) 0)])
  .fail))
  (.stop 0 [.l (uL (out r6 0) 0)]))
  (.stop 0 [.l (uL (out r6 0) 0)]))
  .fail))
  (.test (decide (uI (out r4 0) 3 < w64 (uI (out r4 0) 4 - uI (out r4 0) 5)))
  (.test (decide (w64 (uI (out r4 0) 4 - uI (out r4 0) 5) < uI (out r4 0) 2))
  (let r8 : Rs := (Rt.res (mr [U.i (uI (out r4 0) 3), U.i (w64 (uI (out r4 0) 4 - uI (out r4 0) 5)), U.i (uI (out r4 0) 2), U.l (uL (out r5 0) 0)]))
  (.test (ok r8 0)
  (.stop 0 [.l (uL (out r8 0) 0)])
  .fail))
  (.stop 0 [.l (uL (out r5 0) 0)]))
  (.stop 0 [.l (uL (out r5 0) 0)])))
  (.test (decide (uI (out r4 0) 3 < w64 (uI (out r4 0) 4 - uI (out r4 0) 5)))
  (.test (decide (w64 (uI (out r4 0) 4 - uI (out r4 0) 5) < uI (out r4 0) 2))
  (let r9 : Rs := (Rt.res (mr [U.i (uI (out r4 0) 3), U.i (w64 (uI (out r4 0) 4 - uI (out r4 0) 5)), U.i (uI (out r4 0) 2), U.l (uL (out r5 0) 0)]))
  (.test (ok r9 0)
  (.stop 0 [.l (uL (out r9 0) 0)])
  .fail))
  (.stop 0 [.l (uL (out r5 0) 0)]))
  (.stop 0 [.l (uL (out r5 0) 0)])))
  .fail))
  (.test (decide (uI (out r4 0) 0 < uI (out r4 0) 5))
  (.test (decide (uI (out r4 0) 5 < uI (out r4 0) 3))
  (let r10 : Rs := (Rt.res (mr [U.i (uI (out r4 0) 0), U.i (uI (out r4 0) 5), U.i (uI (out r4 0) 3), U.l (uL (out r4 0) 6)]))
  (.test (ok r10 0)
  (.test (decide (uI (out r4 0) 3 < w64 (uI (out r4 0) 4 - uI (out r4 0) 5)))
  (.test (decide (w64 (uI (out r4 0) 4 - uI (out r4 0) 5) < uI (out r4 0) 2))
  (let r11 : Rs := (Rt.res (mr [U.i (uI (out r4 0) 3), U.i (w64 (uI (out r4 0) 4 - uI (out r4 0) 5)), U.i (uI (out r4 0) 2), U.l (uL (out r10 0) 0)]))
  (.test (ok r11 0)
  (.stop 0 [.l (uL (out r11 0) 0)])
  .fail))
  (.stop 0 [.l (uL (out r10 0) 0)]))
  (.stop 0 [.l (uL (out r10 0) 0)]))
  .fail))
  (.test (decide (uI (out r4 0) 3 < w64 (uI (out r4 0) 4 - uI (out r4 0) 5)))
  (.test (decide (w64 (uI (out r4 0) 4 - uI (out r4 0) 5) < uI (out r4 0) 2))
  (let r12 : Rs := (Rt.res (mr [U.i (uI (out r4 0) 3), U.i (w64 (uI (out r4 0) 4 - uI (out r4 0) 5)), U.i (uI (out r4 0) 2), U.l (uL (out r4 0) 6)]))
  (.test (ok r12 0)
  (.stop 0 [.l (uL (out r12 0) 0)])
  .fail))
  (.stop 0 [.l (uL (out r4 0) 6)]))
  (.stop 0 [.l (uL (out r4 0) 6)])))
  (.test (decide (uI (out r4 0) 3 < w64 (uI (out r4 0) 4 - uI (out r4 0) 5)))
  (.test (decide (w64 (uI (out r4 0) 4 - uI (out r4 0) 5) < uI (out r4 0) 2))
  (let r13 : Rs := (Rt.res (mr [U.i (uI (out r4 0) 3), U.i (w64 (uI (out r4 0) 4 - uI (out r4 0) 5)), U.i (uI (out r4 0) 2), U.l (uL (out r4 0) 6)]))
  (.test (ok r13 0)
  (.stop 0 [.l (uL (out r13 0) 0)])
  .fail))
  (.stop 0 [.l (uL (out r4 0) 6)]))
  (.stop 0 [.l (uL (out r4 0) 6)]))))
  (.test (decide (uI (out r4 0) 0 < uI (out r4 0) 5))
  (.test (decide (uI (out r4 0) 5 < uI (out r4 0) 3))
  (let r14 : Rs := (Rt.res (mr [U.i (uI (out r4 0) 0), U.i (uI (out r4 0) 5), U.i (uI (out r4 0) 3), U.l (uL (out r4 0) 6)]))
  (.test (ok r14 0)
  (.test (decide (uI (out r4 0) 3 < w64 (uI (out r4 0) 4 - uI (out r4 0) 5)))
  (.test (decide (w64 (uI (out r4 0) 4 - uI (out r4 0) 5) < uI (out r4 0) 2))
  (let r15 : Rs := (Rt.res (mr [U.i (uI (out r4 0) 3), U.i (w64 (uI (out r4 0) 4 - uI (out r4 0) 5)), U.i (uI (out r4 0) 2), U.l (uL (out r14 0) 0)]))
  (.test (ok r15 0)
  (.stop 0 [.l (uL (out r15 0) 0)])
  .fail))
  (.stop 0 [.l (uL (out r14 0) 0)]))
  (.stop 0 [.l (uL (out r14 0) 0)]))
  .fail))
  (.test (decide (uI (out r4 0) 3 < w64 (uI (out r4 0) 4 - uI (out r4 0) 5)))
  (.test (decide (w64 (uI (out r4 0) 4 - uI (out r4 0) 5) < uI (out r4 0) 2))
  (let r16 : Rs := (Rt.res (mr [U.i (uI (out r4 0) 3), U.i (w64 (uI (out r4 0) 4 - uI (out r4 0) 5)), U.i (uI (out r4 0) 2), U.l (uL (out r4 0) 6)]))
  (.test (ok r16 0)
  (.stop 0 [.l (uL (out r16 0) 0)])
  .fail))
  (.stop 0 [.l (uL (out r4 0) 6)]))
  (.stop 0 [.l (uL (out r4 0) 6)])))
  (.test (decide (uI (out r4 0) 3 < w64 (uI (out r4 0) 4 - uI (out r4 0) 5)))
  (.test (decide (w64 (uI (out r4 0) 4 - uI (out r4 0) 5) < uI (out r4 0) 2))
  (let r17 : Rs := (Rt.res (mr [U.i (uI (out r4 0) 3), U.i (w64 (uI (out r4 0) 4 - uI (out r4 0) 5)), U.i (uI (out r4 0) 2), U.l (uL (out r4 0) 6)]))
  (.test (ok r17 0)
  (.stop 0 [.l (uL (out r17 0) 0)])
  .fail))
  (.stop 0 [.l (uL (out r4 0) 6)]))
  (.stop 0 [.l (uL (out r4 0) 6)]))))
  .fail))
  (let r18 : Rs := (lres rd_zi_108_33 [U.i v0, U.i v1, U.i v2, U.i (w64 (Int.fdiv (IntKind.wrap IntKind.u64 (w64 (v0 + v2))) (2 : Int))), U.i (w64 (w64 (Int.fdiv (IntKind.wrap IntKind.u64 (w64 (v0 + v2))) (2 : Int)) + v1)), U.i v0, U.i v1, U.i (w64 (w64 (w64 (Int.fdiv (IntKind.wrap IntKind.u64 (w64 (v0 + v2))) (2 : Int)) + v1) - (1 : Int))), U.l v3])
  (.test (ok r18 0)
  (.test (decide (uI (out r18 0) 5 < uI (out r18 0) 1))
  (.test (decide (uI (out r18 0) 1 < w64 (uI (out r18 0) 4 - uI (out r18 0) 5)))
  (let r19 : Rs := (Rt.res (m_zh [U.i (uI (out r18 0) 5), U.i (uI (out r18 0) 1), U.i (w64 (uI (out r18 0) 4 - uI (out r18 0) 5)), U.l (uL (out r18 0) 6)]))
  (.test (ok r19 0)
  (.test (decide (uI (out r18 0) 0 < uI (out r18 0) 5))
  (.test (decide (uI (out r18 0) 5 < uI (out r18 0) 3))
  (let r20 : Rs := (Rt.res (mr [U.i (uI (out r18 0) 0), U.i (uI (out r18 0) 5), U.i (uI (out r18 0) 3), U.l (uL (out r19 0) 0)]))
  (.test (ok r20 0)
  (.test (decide (uI (out r18 0) 3 < w64 (uI (out r18 0) 4 - uI (out r18 0) 5)))
  (.test (decide (w64 (uI (out r18 0) 4 - uI (out r18 0) 5) < uI (out r18 0) 2))
  (let r21 : Rs := (Rt.res (mr [U.i (uI (out r18 0) 3), U.i (w64 (uI (out r18 0) 4 - uI (out r18 0) 5)), U.i (uI (out r18 0) 2), U.l (uL (out r20 0) 0)]))
  (.test (ok r21 0)
  (.stop 0 [.l (uL (out r21 0) 0)])
  .fail))
  (.stop 0 [.l (uL (out r20 0) 0)]))
  (.stop 0 [.l (uL (out r20 0) 0)]))
  .fail))
  (.test (decide (uI (out r18 0) 3 < w64 (uI (out r18 0) 4 - uI (out r18 0) 5)))
  (.test (decide (w64 (uI (out r18 0) 4 - uI (out r18 0) 5) < uI (out r18 0) 2))
  (let r22 : Rs := (Rt.res (mr [U.i (uI (out r18 0) 3), U.i (w64 (uI (out r18 0) 4 - uI (out r18 0) 5)), U.i (uI (out r18 0) 2), U.l (uL (out r19 0) 0)]))
  (.test (ok r22 0)
  (.stop 0 [.l (uL (out r22 0) 0)])
  .fail))
  (.stop 0 [.l (uL (out r19 0) 0)]))
  (.stop 0 [.l (uL (out r19 0) 0)])))
  (.test (decide (uI (out r18 0) 3 < w64 (uI (out r18 0) 4 - uI (out r18 0) 5)))
  (.test (decide (w64 (uI (out r18 0) 4 - uI (out r18 0) 5) < uI (out r18 0) 2))
  (let r23 : Rs := (Rt.res (mr [U.i (uI (out r18 0) 3), U.i (w64 (uI (out r18 0) 4 - uI (out r18 0) 5)), U.i (uI (out r18 0) 2), U.l (uL (out r19 0) 0)]))
  (.test (ok r23 0)
  (.stop 0 [.l (uL (out r23 0) 0)])
  .fail))
  (.stop 0 [.l (uL (out r19 0) 0)]))
  (.stop 0 [.l (uL (out r19 0) 0)])))
  .fail))
  (.test (decide (uI (out r18 0) 0 < uI (out r18 0) 5))
  (.test (decide (uI (out r18 0) 5 < uI (out r18 0) 3))
  (let r24 : Rs := (Rt.res (mr [U.i (uI (out r18 0) 0), U.i (uI (out r18 0) 5), U.i (uI (out r18 0) 3), U.l (uL (out r18 0) 6)]))
  (.test (ok r24 0)
  (.test (decide (uI (out r18 0) 3 < w64 (uI (out r18 0) 4 - uI (out r18 0) 5)))
  (.test (decide (w64 (uI (out r18 0) 4 - uI (out r18 0) 5) < uI (out r18 0) 2))
  (let r25 : Rs := (Rt.res (mr [U.i (uI (out r18 0) 3), U.i (w64 (uI (out r18 0) 4 - uI (out r18 0) 5)), U.i (uI (out r18 0) 2), U.l (uL (out r24 0) 0)]))
  (.test (ok r25 0)
  (.stop 0 [.l (uL (out r25 0) 0)])
  .fail))
  (.stop 0 [.l (uL (out r24 0) 0)]))
  (.stop 0 [.l (uL (out r24 0) 0)]))
  .fail))
  (.test (decide (uI (out r18 0) 3 < w64 (uI (out r18 0) 4 - uI (out r18 0) 5)))
  (.test (decide (w64 (uI (out r18 0) 4 - uI (out r18 0) 5) < uI (out r18 0) 2))
  (let r26 : Rs := (Rt.res (mr [U.i (uI (out r18 0) 3), U.i (w64 (uI (out r18 0) 4 - uI (out r18 0) 5)), U.i (uI (out r18 0) 2), U.l (uL (out r18 0) 6)]))
  (.test (ok r26 0)
  (.stop 0 [.l (uL (out r26 0) 0)])
  .fail))
  (.stop 0 [.l (uL (out r18 0) 6)]))
  (.stop 0 [.l (uL (out r18 0) 6)])))
  (.test (decide (uI (out r18 0) 3 < w64 (uI (out r18 0) 4 - uI (out r18 0) 5)))
  (.test (decide (w64 (uI (out r18 0) 4 - uI (out r18 0) 5) < uI (out r18 0) 2))
  (let r27 : Rs := (Rt.res (mr [U.i (uI (out r18 0) 3), U.i (w64 (uI (out r18 0) 4 - uI (out r18 0) 5)), U.i (uI (out r18 0) 2), U.l (uL (out r18 0) 6)]))
  (.test (ok r27 0)
  (.stop 0 [.l (uL (out r27 0) 0)])
  .fail))
  (.stop 0 [.l (uL (out r18 0) 6)]))
  (.stop 0 [.l (uL (out r18 0) 6)]))))
  (.test (decide (uI (out r18 0) 0 < uI (out r18 0) 5))
  (.test (decide (uI (out r18 0) 5 < uI (out r18 0) 3))
  (let r28 : Rs := (Rt.res (mr [U.i (uI (out r18 0) 0), U.i (uI (out r18 0) 5), U.i (uI (out r18 0) 3), U.l (uL (out r18 0) 6)]))
  (.test (ok r28 0)
  (.test (decide (uI (out r18 0) 3 < w64 (uI (out r18 0) 4 - uI (out r18 0) 5)))
  (.test (decide (w64 (uI (out r18 0) 4 - uI (out r18 0) 5) < uI (out r18 0) 2))
  (let r29 : Rs := (Rt.res (mr [U.i (uI (out r18 0) 3), U.i (w64 (uI (out r18 0) 4 - uI (out r18 0) 5)), U.i (uI (out r18 0) 2), U.l (uL (out r28 0) 0)]))
  (.test (ok r29 0)
  (.stop 0 [.l (uL (out r29 0) 0)])
  .fail))
  (.stop 0 [.l (uL (out r28 0) 0)]))
  (.stop 0 [.l (uL (out r28 0) 0)]))
  .fail))
  (.test (decide (uI (out r18 0) 3 < w64 (uI (out r18 0) 4 - uI (out r18 0) 5)))
  (.test (decide (w64 (uI (out r18 0) 4 - uI (out r18 0) 5) < uI (out r18 0) 2))
  (let r30 : Rs := (Rt.res (mr [U.i (uI (out r18 0) 3), U.i (w64 (uI (out r18 0) 4 - uI (out r18 0) 5)), U.i (uI (out r18 0) 2), U.l (uL (out r18 0) 6)]))
  (.test (ok r30 0)
  (.stop 0 [.l (uL (out r30 0) 0)])
  .fail))
  (.stop 0 [.l (uL (out r18 0) 6)]))
  (.stop 0 [.l (uL (out r18 0) 6)])))
  (.test (decide (uI (out r18 0) 3 < w64 (uI (out r18 0) 4 - uI (out r18 0) 5)))
  (.test (decide (w64 (uI (out r18 0) 4 - uI (out r18 0) 5) < uI (out r18 0) 2))
  (let r31 : Rs := (Rt.res (mr [U.i (uI (out r18 0) 3), U.i (w64 (uI (out r18 0) 4 - uI (out r18 0) 5)), U.i (uI (out r18 0) 2), U.l (uL (out r18 0) 6)]))
  (.test (ok r31 0)
  (.stop 0 [.l (uL (out r31 0) 0)])
  .fail))
  (.stop 0 [.l (uL (out r18 0) 6)]))
  (.stop 0 [.l (uL (out r18 0) 6)]))))
  .fail)))))
 | _ => .fail
noncomputable def m_zi : List U → Rt := recM s_zi 64
set_option maxRecDepth 100000 in
theorem q_zi (mr : List U → Rt) (v0 v1 v2 : Int) (v3 : List (List PV)) : callKB br Tryz.prog (extT [(108, gF S_zi mr)] X8) M_zi L_zi (lsT ll_zi_108_33) 60 108 (encs [.i v0, .i v1, .i v2, .l v3] 0 S_zi.ap) (encH [.i v0, .i v1, .i v2, .l v3] (ws S_zi.ap) S_zi.ah) (fun y => fixR Tryz.prog S_zi.plan S_zi.ah.length y) =
  (s_zi mr [.i v0, .i v1, .i v2, .l v3]).go br (fun _ => none) S_zi.fin := by
 rw [← callFB_eq]; kernel_rfl
set_option maxRecDepth 100000 in
theorem es_zi (mr : List U → Rt) (hr : EOK Tryz.prog 108 (gF S_zi mr)) : EOK Tryz.prog 108 (gF S_zi (s_zi mr)) :=
 eokToldB mixed named (xok1 x8 hr) (loopsOK_list rids (lk_zi_108_33 mr)) 60 S_zi (s_zi mr) (by
  intro us v h; unfold s_zi at h; split at h
  ·rename_i v0 v1 v2 v3; exact q_zi mr v0 v1 v2 v3
  ·cases h)
theorem e_zi : EOK Tryz.prog 108 (gF S_zi m_zi) := eokRec es_zi 64
noncomputable abbrev X9 : Ext := extT [(108, (gF S_zi m_zi))] X8
theorem x9 : XOK Tryz.prog X9 := xok1 x8 e_zi

/-- slices.stableCmpFunc[levee/api.Count] -/
def L_zj : FuncId → Nat → Option (List Nat) := liveT [(96, 2, [0, 1, 2, 6, 7, 8]), (96, 1000002, [0, 1, 2, 6, 7]), (96, 2000002, []), (96, 9, [0, 1, 2, 6, 7, 8]), (96, 1000009, [0, 1, 2, 6, 7]), (96, 2000009, []), (96, 7, [0, 1, 2, 6]), (96, 1000007, []), (96, 2000007, [])]
def M_zj : FuncId → Bool := fun f => f == 108 || f == 107
noncomputable def rd_zj_96_2 : List U → Rt
 | [.i v0, .i v1, .i v2, .i v3, .l v4] =>
  (.test (decide (v3 ≤ v0))
  (let r0 : Rs := (Rt.res (m_zf [U.i v2, U.i v3, U.l v4]))
  (.test (ok r0 0)
  (.next [.i v0, .i v1, .i v3, .i (w64 (v3 + v1)), .l (uL (out r0 0) 0)])
  .fail))
  (.stop 0 [.i v0, .i v1, .i v2, .l v4]))
 | _ => .fail
def sp_zj_96_2 : LSp := ⟨63, ⟨[(0, .one (.all 0)), (1, .one (.i .i64)), (2, .fn 77 []), (6, .one (.i .i64)), (7, .one (.i .i64)), (8, .one (.i .i64))], [.arr 49 true]⟩, [(.exit 0, ⟨[(0, .one (.all 0)), (1, .one (.i .i64)), (2, .fn 77 []), (6, .one (.i .i64)), (7, .one (.i .i64))], [.arr 49 true]⟩)]⟩
set_option maxRecDepth 100000 in
theorem rq_zj_96_2 (v0 v1 v2 v3 : Int) (v4 : List (List PV)) : runK br Tryz.prog (callK br Tryz.prog X9 M_zj L_zj (lsT []) 40) M_zj (lsT [] 96 1) 40 1 (L_zj 96) (bodyOf Tryz.prog 96 2) (sp_zj_96_2.s.ts sp_zj_96_2.n [.i v0, .i v1, .i v2, .i v3, .l v4]) (sp_zj_96_2.s.h [.i v0, .i v1, .i v2, .i v3, .l v4]) (idc Tryz.prog 1 (L_zj 96) 2) =
  (rd_zj_96_2 [.i v0, .i v1, .i v2, .i v3, .l v4]).go br (fun us' => some (.normal, sp_zj_96_2.s.ts sp_zj_96_2.n us', sp_zj_96_2.s.h us')) sp_zj_96_2.fin := by
 rw [← callF_eq, ← runF_eq]; kernel_rfl
theorem lo_zj_96_2 {R : Type} : LoopTells Tryz.prog X9 M_zj L_zj 1 (L_zj 96) (bodyOf Tryz.prog 96 2) (gL (R := R) sp_zj_96_2 rd_zj_96_2 br) :=
 loopTold (callK_ev (loopsOK_list rids noneIn) 40) (lsokIn (loopsOK_list rids noneIn) 96 1 2) (by kernel_rfl) sp_zj_96_2 rd_zj_96_2 rfl (by kernel_rfl) (by
  intro us v h; unfold rd_zj_96_2 at h; split at h
  ·rename_i v0 v1 v2 v3 v4; exact rq_zj_96_2 v0 v1 v2 v3 v4
  ·cases h)
noncomputable abbrev ll_zj_96_2 {R : Type} : List (Nat × Nat × Nat × Smy R) := (96, 1, 2, gL sp_zj_96_2 rd_zj_96_2 br) :: []
theorem lk_zj_96_2 {R : Type} : ∀ e ∈ ll_zj_96_2 (R := R), LoopTells Tryz.prog X9 M_zj L_zj e.2.1 (L_zj e.1) (bodyOf Tryz.prog e.1 e.2.2.1) e.2.2.2 := List.forall_mem_cons.2 ⟨lo_zj_96_2, noneIn⟩
noncomputable def rd_zj_96_9 : List U → Rt
 | [.i v0, .i v1, .i v2, .i v3, .l v4] =>
  (.test (decide (v3 ≤ v0))
  (let r0 : Rs := (Rt.res (m_zi [U.i v2, U.i (w64 (v2 + v1)), U.i v3, U.l v4]))
  (.test (ok r0 0)
  (.next [.i v0, .i v1, .i v3, .i (w64 (v3 + w64 ((2 : Int) * v1))), .l (uL (out r0 0) 0)])
  .fail))
  (.stop 0 [.i v0, .i v1, .i v2, .l v4]))
 | _ => .fail
def sp_zj_96_9 : LSp := ⟨63, ⟨[(0, .one (.all 0)), (1, .one (.i .i64)), (2, .fn 77 []), (6, .one (.i .i64)), (7, .one (.i .i64)), (8, .one (.i .i64))], [.arr 49 true]⟩, [(.exit 4, ⟨[(0, .one (.all 0)), (1, .one (.i .i64)), (2, .fn 77 []), (6, .one (.i .i64)), (7, .one (.i .i64))], [.arr 49 true]⟩)]⟩
set_option maxRecDepth 100000 in
theorem rq_zj_96_9 (v0 v1 v2 v3 : Int) (v4 : List (List PV)) : runK br Tryz.prog (callK br Tryz.prog X9 M_zj L_zj (lsT ll_zj_96_2) 40) M_zj (lsT ll_zj_96_2 96 1) 40 1 (L_zj 96) (bodyOf Tryz.prog 96 9) (sp_zj_96_9.s.ts sp_zj_96_9.n [.i v0, .i v1, .i v2, .i v3, .l v4]) (sp_zj_96_9.s.h [.i v0, .i v1, .i v2, .i v3, .l v4]) (idc Tryz.prog 1 (L_zj 96) 9) =
  (rd_zj_96_9 [.i v0, .i v1, .i v2, .i v3, .l v4]).go br (fun us' => some (.normal, sp_zj_96_9.s.ts sp_zj_96_9.n us', sp_zj_96_9.s.h us')) sp_zj_96_9.fin := by
 rw [← callF_eq, ← runF_eq]; kernel_rfl
theorem lo_zj_96_9 {R : Type} : LoopTells Tryz.prog X9 M_zj L_zj 1 (L_zj 96) (bodyOf Tryz.prog 96 9) (gL (R := R) sp_zj_96_9 rd_zj_96_9 br) :=
 loopTold (callK_ev (loopsOK_list rids lk_zj_96_2) 40) (lsokIn (loopsOK_list rids lk_zj_96_2) 96 1 9) (by kernel_rfl) sp_zj_96_9 rd_zj_96_9 rfl (by kernel_rfl) (by
  intro us v h; unfold rd_zj_96_9 at h; split at h
  ·rename_i v0 v1 v2 v3 v4; exact rq_zj_96_9 v0 v1 v2 v3 v4
  ·cases h)
noncomputable abbrev ll_zj_96_9 {R : Type} : List (Nat × Nat × Nat × Smy R) := (96, 1, 9, gL sp_zj_96_9 rd_zj_96_9 br) :: ll_zj_96_2
theorem lk_zj_96_9 {R : Type} : ∀ e ∈ ll_zj_96_9 (R := R), LoopTells Tryz.prog X9 M_zj L_zj e.2.1 (L_zj e.1) (bodyOf Tryz.prog e.1 e.2.2.1) e.2.2.2 := List.forall_mem_cons.2 ⟨lo_zj_96_9, lk_zj_96_2⟩
noncomputable def rd_zj_96_7 : List U → Rt
 | [.i v0, .i v1, .l v2] =>
  (.test (decide (v1 < v0))
  (let r0 : Rs := (lres rd_zj_96_9 [U.i v0, U.i v1, U.i (0 : Int), U.i (w64 ((2 : Int) * v1)), U.l v2])
  (.test (ok r0 0)
  (.test (decide (w64 (uI (out r0 0) 2 + uI (out r0 0) 1) < uI (out r0 0) 0))
  (let r1 : Rs := (Rt.res (m_zi [U.i (uI (out r0 0) 2), U.i (w64 (uI (out r0 0) 2 + uI (out r0 0) 1)), U.i (uI (out r0 0) 0), U.l (uL (out r0 0) 3)]))
  (.test (ok r1 0)
  (.next [.i (uI (out r0 0) 0), .i (w64 (uI (out r0 0) 1 * (2 : Int))), .l (uL (out r1 0) 0)])
  .fail))
  (.next [.i (uI (out r0 0) 0), .i (w64 (uI (out r0 0) 1 * (2 : Int))), .l (uL (out r0 0) 3)]))
  .fail))
  (.stop 0 [.l v2]))
 | _ => .fail
def sp_zj_96_7 : LSp := ⟨63, ⟨[(0, .one (.all 0)), (1, .one (.i .i64)), (2, .fn 77 []), (6, .one (.i .i64))], [.arr 49 true]⟩, [(.exit 2, ⟨[], [.arr 49 true]⟩)]⟩
set_option maxRecDepth 100000 in
theorem rq_zj_96_7 (v0 v1 : Int) (v2 : List (List PV)) : runK br Tryz.prog (callK br Tryz.prog X9 M_zj L_zj (lsT ll_zj_96_9) 40) M_zj (lsT ll_zj_96_9 96 1) 40 1 (L_zj 96) (bodyOf Tryz.prog 96 7) (sp_zj_96_7.s.ts sp_zj_96_7.n [.i v0, .i v1, .l v2]) (sp_zj_96_7.s.h [.i v0, .i v1, .l v2]) (idc Tryz.prog 1 (L_zj 96) 7) =
  (rd_zj_96_7 [.i v0, .i v1, .l v2]).go br (fun us' => some (.normal, sp_zj_96_7.s.ts sp_zj_96_7.n us', sp_zj_96_7.s.h us')) sp_zj_96_7.fin := by
 rw [← callF_eq, ← runF_eq]; kernel_rfl
theorem lo_zj_96_7 {R : Type} : LoopTells Tryz.prog X9 M_zj L_zj 1 (L_zj 96) (bodyOf Tryz.prog 96 7) (gL (R := R) sp_zj_96_7 rd_zj_96_7 br) :=
 loopTold (callK_ev (loopsOK_list rids lk_zj_96_9) 40) (lsokIn (loopsOK_list rids lk_zj_96_9) 96 1 7) (by kernel_rfl) sp_zj_96_7 rd_zj_96_7 rfl (by kernel_rfl) (by
  intro us v h; unfold rd_zj_96_7 at h; split at h
  ·rename_i v0 v1 v2; exact rq_zj_96_7 v0 v1 v2
  ·cases h)
noncomputable abbrev ll_zj_96_7 {R : Type} : List (Nat × Nat × Nat × Smy R) := (96, 1, 7, gL sp_zj_96_7 rd_zj_96_7 br) :: ll_zj_96_9
theorem lk_zj_96_7 {R : Type} : ∀ e ∈ ll_zj_96_7 (R := R), LoopTells Tryz.prog X9 M_zj L_zj e.2.1 (L_zj e.1) (bodyOf Tryz.prog e.1 e.2.2.1) e.2.2.2 := List.forall_mem_cons.2 ⟨lo_zj_96_7, lk_zj_96_9⟩
def S_zj : FSp := ⟨[.one (.all 0), .one (.i .i64), .fn 77 []], [.arr 49 true], [], [([], [.arr 49 true])]⟩
noncomputable def m_zj : List U → Rt
 | [.i v0, .l v1] =>
  (let r0 : Rs := (lres rd_zj_96_2 [U.i v0, U.i (20 : Int), U.i (0 : Int), U.i (20 : Int), U.l v1])
  (.test (ok r0 0)
  (let r1 : Rs := (Rt.res (m_zf [U.i (uI (out r0 0) 2), U.i (uI (out r0 0) 0), U.l (uL (out r0 0) 3)]))
  (.test (ok r1 0)
  (let r2 : Rs := (lres rd_zj_96_7 [U.i (uI (out r0 0) 0), U.i (uI (out r0 0) 1), U.l (uL (out r1 0) 0)])
  (.test (ok r2 0)
  (.stop 0 [.l (uL (out r2 0) 0)])
  .fail))
  .fail))
  .fail))
 | _ => .fail
set_option maxRecDepth 100000 in
theorem q_zj (v0 : Int) (v1 : List (List PV)) : callK br Tryz.prog X9 M_zj L_zj (lsT ll_zj_96_7) 60 96 (encs [.i v0, .l v1] 0 S_zj.ap) (encH [.i v0, .l v1] (ws S_zj.ap) S_zj.ah) (fun y => fixR Tryz.prog S_zj.plan S_zj.ah.length y) =
  (m_zj [.i v0, .l v1]).go br (fun _ => none) S_zj.fin := by
 rw [← callF_eq]; kernel_rfl
theorem e_zj : EOK Tryz.prog 96 (gF S_zj m_zj) :=
 eokTold mixed named x9 (loopsOK_list rids lk_zj_96_7) 60 S_zj m_zj (by
  intro us v h; unfold m_zj at h; split at h
  ·rename_i v0 v1; exact q_zj v0 v1
  ·cases h) false
noncomputable abbrev X10 : Ext := extT [(96, (gF S_zj m_zj))] X9
theorem x10 : XOK Tryz.prog X10 := xok1 x9 e_zj

/-- slices.SortStableFunc[[]levee/api.Count,levee/api.Count] -/
def L_zk : FuncId → Nat → Option (List Nat) := liveT []
def M_zk : FuncId → Bool := fun f => f == 96
def S_zk : FSp := ⟨[.one (.all 0), .fn 77 []], [.arr 49 true], [], [([], [.arr 49 true])]⟩
noncomputable def m_zk : List U → Rt
 | [.l v0] =>
  (let r0 : Rs := (Rt.res (m_zj [U.i (ln v0), U.l v0]))
  (.test (ok r0 0)
  (.stop 0 [.l (uL (out r0 0) 0)])
  .fail))
 | _ => .fail
set_option maxRecDepth 100000 in
theorem q_zk (v0 : List (List PV)) : callK br Tryz.prog X10 M_zk L_zk (lsT []) 60 76 (encs [.l v0] 0 S_zk.ap) (encH [.l v0] (ws S_zk.ap) S_zk.ah) (fun y => fixR Tryz.prog S_zk.plan S_zk.ah.length y) =
  (m_zk [.l v0]).go br (fun _ => none) S_zk.fin := by
 rw [← callF_eq]; kernel_rfl
theorem e_zk : EOK Tryz.prog 76 (gF S_zk m_zk) :=
 eokTold mixed named x10 (loopsOK_list rids noneIn) 60 S_zk m_zk (by
  intro us v h; unfold m_zk at h; split at h
  ·rename_i v0; exact q_zk v0
  ·cases h) false
noncomputable abbrev X11 : Ext := extT [(76, (gF S_zk m_zk))] X10
theorem x11 : XOK Tryz.prog X11 := xok1 x10 e_zk

/-- slices.SortStableFunc[[]levee/api.Count,levee/api.Count] -/
def L_zl : FuncId → Nat → Option (List Nat) := liveT []
def M_zl : FuncId → Bool := fun f => f == 96 || f == 107
def S_zl : FSp := ⟨[.one (.nils), .fn 77 []], [], [], [([], [])]⟩
noncomputable def m_zl : List U → Rt
 | [] =>
  (.stop 0 [])
 | _ => .fail
set_option maxRecDepth 100000 in
theorem q_zl : callK br Tryz.prog XI M_zl L_zl (lsT []) 60 76 (encs [] 0 S_zl.ap) (encH [] (ws S_zl.ap) S_zl.ah) (fun y => fixR Tryz.prog S_zl.plan S_zl.ah.length y) =
  (m_zl []).go br (fun _ => none) S_zl.fin := by
 rw [← callF_eq]; kernel_rfl
theorem e_zl : EOK Tryz.prog 76 (gF S_zl m_zl) :=
 eokTold mixed named xI (loopsOK_list rids noneIn) 60 S_zl m_zl (by
  intro us v h; unfold m_zl at h; split at h
  ·exact q_zl
  ·cases h) false
noncomputable abbrev X12 : Ext := extT [(76, (gE S_zl m_zl (gF S_zk m_zk)))] X11
theorem x12 : XOK Tryz.prog X12 := xok1 x11 (eokE e_zl e_zk)

end Go.Proofs.YtkaljlpbmbfpgaaGreatDoor

set_option linter.unusedVariables false
namespace Go.Proofs.YtkaljlpbmbfpgaaGreatDoor
open Go Go.Pu

noncomputable abbrev XJ : Ext := extT [(76, (gE S_zl m_zl (gF S_zk m_zk)))] X12
theorem xJ : XOK Tryz.prog XJ := xokT x12 (List.forall_mem_cons.2 ⟨eokE e_zl e_zk, fun _ h => nomatch h⟩)

end Go.Proofs.YtkaljlpbmbfpgaaGreatDoor

set_option linter.unusedVariables false
namespace Go.Proofs.YtkaljlpbmbfpgaaGreatDoor
open Go Go.Pu Go.RowKit

def seatLaid : List (String × DataW Unit) := [("math/bits.deBruijn32tab", Rows.laid_math_bits_deBruijn32tab), ("math/bits.deBruijn64tab", Rows.laid_math_bits_deBruijn64tab), ("internal/strconv.uint64pow10", Rows.laid_internal_strconv_uint64pow10), ("unicode/utf8.acceptRanges", Rows.laid_unicode_utf8_acceptRanges), ("unicode/utf8.first", Rows.laid_unicode_utf8_first)]

theorem laidPlain (w : World) : laidMetH Tryz.prog seatLaid w = laidMet Tryz.prog seatLaid w := MakeChecks.laidMetH_plain _ _ _ (by kernel_rfl)

theorem laidWorld (os : Os) (args : Array Value) : laidMetH Tryz.prog seatLaid ((World.laidAll Tryz.prog os seatLaid).forCall (fun _ _ => 0) ⟨#[], args, []⟩).memory := by
 rw [laidPlain]; exact laidMet_laidAll _ (by kernel_rfl) (by kernel_rfl)

theorem cells_of_var {P : Program} {w : World} {n : String} {g : Nat} {cs : Array Value} (hg : P.globalNamed n = some g) (h : w.var? P n = some cs) : ∃ T fz, w.heap[g]? = some (.cells cs T fz) := by
 simp only [World.var?, hg, Option.bind_some] at h
 split at h
 ·rename_i c T fz hw
  cases h
  exact ⟨T, fz, hw⟩
 ·cases h

theorem cells_of_cell {w : World} {g : Nat} {v : Value} (h : w.cell? ⟨g, 0, none⟩ = some v) : ∃ c T fz, w.heap[g]? = some (.cells c T fz) ∧ c[0]? = some v := by
 unfold World.cell? at h
 split at h
 ·rename_i c T fz hw
  exact ⟨c, T, fz, hw, by simpa using h⟩
 ·cases h

set_option maxRecDepth 100000 in
theorem tabs_of (W : World) (h : laidMetH Tryz.prog seatLaid W) (hs : W.ShapedOpen Tryz.prog) : Tab W fun b => b < W.heap.size := by
 rw [laidPlain] at h
 intro x hx
 simp only [seatTabs, List.mem_cons, List.mem_nil_iff, or_false] at hx
 rcases hx with rfl | rfl
 ·obtain ⟨g, t, cs, fuel, p, h1, h2, h3, h4⟩ := Lib.laidMet.reads h (n := "internal/strconv.uint64pow10") (d := Rows.laid_internal_strconv_uint64pow10) (by simp [seatLaid])
  obtain rfl := Option.some.inj ((show Tryz.prog.globalNamed "internal/strconv.uint64pow10" = some 1 by kernel_rfl).symm.trans h1)
  obtain rfl := Option.some.inj ((show (Tryz.prog.globals[1]?).map (·.type) = some 166 by kernel_rfl).symm.trans h2)
  obtain ⟨T, fz, hw⟩ := cells_of_var h1 h3
  have hd : (Rows.laid_internal_strconv_uint64pow10 : DataW Unit) = Lib.tabData .u64 Lib.pow10Tab := by rfl
  rw [hd] at h4
  have hc := Lib.cells_of_tab (t := 166) (e := 111) (n := 20) (by kernel_rfl) (by kernel_rfl) (by kernel_rfl) (by kernel_rfl) h4
  refine ⟨heap_lt hw, cs, T, fz, hw, ?_⟩
  show cs = _
  rw [← hc]
 ·obtain ⟨m, hm⟩ := cell_of_shapedOpen_int (P := Tryz.prog) (g := 0) (t := 3) (zero := #[.int .i64 0]) (k := .i64) hs (of_decide_eq_true (by kernel_rfl)) (by kernel_rfl) rfl (by kernel_rfl) (by kernel_rfl) (by kernel_rfl)
  obtain ⟨c, T, fz, hw, h0⟩ := cells_of_cell hm
  exact ⟨heap_lt hw, c, T, fz, hw, m, h0⟩

end Go.Proofs.YtkaljlpbmbfpgaaGreatDoor
