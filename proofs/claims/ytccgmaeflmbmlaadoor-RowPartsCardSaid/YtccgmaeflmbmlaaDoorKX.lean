/- Texts of this seat, one behind the other. -/
import Derived.Test.YtccgmaeflmbmlaaDoorTB
import Derived.Test.YtccgmaeflmbmlaaDoorRows
import Derived.Lib.Strings
import Derived.Lib.Slices
import Derived.Lib.Walk
import Derived.Lib.Bytealg
import Derived.KernelRfl
import Derived.Test.YtccgmaeflmbmlaaDoorTD
import Derived.Shelf.LaysM
import Derived.Shelf.Strconv.Itoa3
import Derived.Shelf.Strings.OnBuilder
import Derived.Shelf.Strings.Replace
import Derived.Shelf.Bits.Mul64
import Derived.Test.YtccgmaeflmbmlaaDoorProg
import Derived.Test.YtccgmaeflmbmlaaDoorTG
import Derived.Lib.ItoaNum
import Derived.Lib.Replace
import Derived.Lib.Join
import Derived.Shelf.Vars
import Derived.Lib.LaidU8
import Derived.Lib.LaidTab
import Derived.MakeChecks
import Derived.Lay
import Derived.LaidLaws
import Derived.Lib.AppendZeros
import Derived.Lib.SliceRun
import Derived.WalkKit
namespace Go.Proofs.YtccgmaeflmbmlaaDoor
open Go.Pu

set_option maxHeartbeats 1000000 in
set_option maxRecDepth 100000 in
theorem bytealg_CompareString (a b : ByteArray) (w : World) :
    Calls Tryd.prog 72 #[.string a, .string b] w fun e w' => e = .returned (.int .i64 (Lib.compareBytes a.data.toList b.data.toList)) ∧ w' = w := by
  go_enter Tryd.func72, Tryd.ntmps72
  go_wp2
  rw [run_callFunc_extern Tryd.func86 (by kernel_rfl) (by kernel_rfl) (by kernel_rfl) (e := Extern.BytealgCompare.compare) (by kernel_rfl), Lib.run_compareString]
  simp only [Result.andThen]
  rw [Oper.upon_value]
  go_wp2
  go_ret
  exact ⟨rfl, rfl⟩

set_option maxHeartbeats 1000000 in
theorem strings_Compare (a b : ByteArray) (w : World) :
    Calls Tryd.prog 49 #[.string a, .string b] w fun e w' => e = .returned (.int .i64 (Lib.compareBytes a.data.toList b.data.toList)) ∧ w' = w := by
  go_enter Tryd.func49, Tryd.ntmps49
  go_wp2_with (go_at_call 72; refine (bytealg_CompareString _ _ _).mono ?_; rintro e w' ⟨rfl, rfl⟩)
  go_ret
  exact ⟨rfl, rfl⟩

theorem mixed : Tryd.prog.follows .mixedOrders = true := by kernel_rfl

def namedB (P : Program) : Bool := P.funcs.toList.all fun fn => fn.body.isNone || fn.name != "runtime.NumGoroutine"

theorem named_of {P : Program} (h : namedB P = true) : Named P := by
  intro f fn hf hb hn
  have hm : fn ∈ P.funcs.toList := by
    have := Array.mem_of_getElem? hf
    simpa using this
  have := List.all_eq_true.1 h fn hm
  rw [Bool.or_eq_true] at this
  rcases this with h1 | h1
  · cases hh : fn.body <;> simp_all
  · rw [hn] at h1; simp at h1

set_option maxRecDepth 100000 in
theorem named : Named Tryd.prog := named_of (by kernel_rfl)

def X0 : Ext := fun f => if f = 49 then some fun | [.str a, .str b], [] => .ret (.int .i64 (Lib.compareBytes a.data.toList b.data.toList)) [] | _, _ => .fail else none

theorem x0 : XOK Tryd.prog X0 := by
  intro f g xs hc r hf hg
  unfold X0 at hf
  split at hf
  · rename_i hf31
    subst hf31
    cases hf
    refine ⟨⟨_, Tryd.func49, by kernel_rfl⟩, fun E vs hE hbk hI hL => ?_⟩
    dsimp only at hg
    split at hg
    · rename_i a b
      cases hg
      obtain ⟨hl, hr⟩ := hL
      match vs, hl, hr with
      | [u, v], _, hr =>
        have h0 := (hr 0 (by simp)).str_inv
        have h1 := (hr 1 (by simp)).str_inv
        simp at h0 h1
        subst h0
        subst h1
        refine (strings_Compare a b E.w).mono ?_
        rintro e w' ⟨rfl, rfl⟩
        exact ⟨_, E, rfl, rfl, hE, (Trans.refl E).toK (Nat.zero_le _), hI, .int _ _⟩
    · cases hg
  · cases hf

theorem rids : ridsOK Tryd.prog = true := by kernel_rfl
theorem own : ownKnob Tryd.prog.godebug = none := by kernel_rfl
theorem laidOut : laidOutB Tryd.prog = true := by kernel_rfl

end Go.Proofs.YtccgmaeflmbmlaaDoor

set_option linter.unusedVariables false
namespace Go.Proofs.YtccgmaeflmbmlaaDoor
open Go.Pu

def L0 : FuncId → Nat → Option (List Nat) := fun _ _ => none
def M0 : FuncId → Bool := fun _ => false

theorem cloneRow1 (e : List PV) (es : List (List PV)) : callK br Tryd.prog X0 M0 L0 noLS 10 61 [.lst 25 (e :: es)] [] (fun y => fixR Tryd.prog [] 0 y) =
    br (decide ((0 + (e :: es).length) * 32 ≤ 140737488355328)) (some (.all 0, [.arr 25 (e :: es) true])) none := by rw [← callF_eq]; kernel_rfl
theorem cloneRow2 : callK br Tryd.prog X0 M0 L0 noLS 10 61 [.nils] [] (fun y => fixR Tryd.prog [1000000 * (2 * 25 + 1)] 0 y) =
    some (.all 0, [.arr 25 [] true]) := by rw [← callF_eq]; kernel_rfl
theorem cloneRow3 : callK br Tryd.prog X0 M0 L0 noLS 10 61 [.new 25 [[]]] [] (fun y => fixR Tryd.prog [] 0 y) =
    some (.all 0, [.arr 25 [] true]) := by rw [← callF_eq]; kernel_rfl

theorem eCloneRow : EOK Tryd.prog 61 (gClone 25 32) :=
  eokClone (fun e es h => rowAt_of mixed named x0 (noLS_ok _ _ _ _) (fuel := 10) (plan := []) ((cloneRow1 e es).trans (br_pos (decide_eq_true h))))
    (rowAt_of mixed named x0 (noLS_ok _ _ _ _) (fuel := 10) (plan := [1000000 * (2 * 25 + 1)]) cloneRow2)
    (rowAt_of mixed named x0 (noLS_ok _ _ _ _) (fuel := 10) (plan := []) cloneRow3)

noncomputable abbrev XB : Ext := extT [(61, gClone 25 32)] X0
theorem xB : XOK Tryd.prog XB := xok1 x0 eCloneRow

end Go.Proofs.YtccgmaeflmbmlaaDoor

namespace Go.Proofs
open Go.Shelf
def Tryd.lays156_ren : Go.Shelf.Ren := ⟨fun | 156 => 67 | 165 => 81 | 166 => 82 | 169 => 83 | 240 => 95 | 241 => 96 | 276 => 106 | 277 => 107 | n => n, fun | 31 => 82 | 9 => 9 | 3 => 3 | 4 => 4 | 0 => 0 | 20 => 20 | 72 => 96 | 76 => 100 | 70 => 93 | 37 => 94 | 75 => 99 | 127 => 112 | 164 => 120 | 5 => 5 | 80 => 102 | n => n, fun | n => n⟩
theorem Tryd.lays156 : Go.Proofs.Lays.n156 Tryd.prog Tryd.lays156_ren := {
  mixed := by kernel_rfl
  f156 := Tryd.func67.trans (congrArg some (by kernel_rfl))
  f165 := Tryd.func81.trans (congrArg some (by kernel_rfl))
  f166 := Tryd.func82.trans (congrArg some (by kernel_rfl))
  f169 := Tryd.func83.trans (congrArg some (by kernel_rfl))
  f240 := Tryd.func95.trans (congrArg some (by kernel_rfl))
  f241 := Tryd.func96.trans (congrArg some (by kernel_rfl))
  f276 := Tryd.func106.trans (congrArg some (by kernel_rfl))
  f277 := Tryd.func107.trans (congrArg some (by kernel_rfl))
  t0 := Tryd.underlying0
  a0 := Tryd.isAgg0
  z0 := Tryd.sizeOf0
  v0 := Tryd.zeroValue0
  t3 := Tryd.underlying3
  a3 := Tryd.isAgg3
  z3 := Tryd.sizeOf3
  v3 := Tryd.zeroValue3
  t4 := Tryd.underlying4
  a4 := Tryd.isAgg4
  z4 := Tryd.sizeOf4
  v4 := Tryd.zeroValue4
  t9 := Tryd.underlying9
  a9 := Tryd.isAgg9
  z9 := Tryd.sizeOf9
  v9 := Tryd.zeroValue9
  t20 := Tryd.underlying20
  a20 := Tryd.isAgg20
  z20 := Tryd.sizeOf20
  v20 := Tryd.zeroValue20
  t31 := Tryd.underlying82
  a31 := Tryd.isAgg82
  z31 := Tryd.sizeOf82
  v31 := Tryd.zeroValue82
  t37 := Tryd.underlying94
  a37 := Tryd.isAgg94
  z37 := Tryd.sizeOf94
  v37 := Tryd.zeroValue94
  t70 := Tryd.underlying93
  a70 := Tryd.isAgg93
  z70 := Tryd.sizeOf93
  v70 := Tryd.zeroValue93
  t72 := Tryd.underlying96
  a72 := Tryd.isAgg96
  z72 := Tryd.sizeOf96
  v72 := Tryd.zeroValue96
  t75 := Tryd.underlying99
  a75 := Tryd.isAgg99
  z75 := Tryd.sizeOf99
  v75 := Tryd.zeroValue99
  t76 := Tryd.underlying100
  a76 := Tryd.isAgg100
  z76 := Tryd.sizeOf100
  v76 := Tryd.zeroValue100
  t127 := Tryd.underlying112
  a127 := Tryd.isAgg112
  z127 := Tryd.sizeOf112
  v127 := Tryd.zeroValue112
  t164 := Tryd.underlying120
  a164 := Tryd.isAgg120
  z164 := Tryd.sizeOf120
  v164 := Tryd.zeroValue120 }
theorem Tryd.Builder_Extra_156 : Builder.Extra Tryd.prog Tryd.lays156_ren := {
  sizeBuilder := by kernel_rfl
  liesBuilder := by kernel_rfl
  t5 := Tryd.underlying5
  a5 := Tryd.isAgg5
  z5 := Tryd.sizeOf5
  v5 := Tryd.zeroValue5
  infoByte := by kernel_rfl
  cellsByte := by kernel_rfl
  sizeByte := by kernel_rfl
  neB5 := by decide }
open Go.RowKit in
theorem Tryd.strings_Join_none (a : Option Addr) (c : Nat) (sep : ByteArray) (w : World) :
    Calls Tryd.prog 67 #[.slice a 0 c, .string sep] w fun e w' => e = .returned (.string ⟨#[]⟩) ∧ w' = w := Any.strings_Join_none Tryd.lays156 Tryd.Builder_Extra_156 a c sep w
open Go.RowKit in
theorem Tryd.strings_Join (bk o c : Nat) (xs : List ByteArray) (sep : ByteArray) (w : World) (hcells : ∀ (j : Nat) x, xs[j]? = some x → w.cell? ⟨bk, o + j, none⟩ = some (.string x)) (hbk : bk < w.heap.size) (hN : xs.length ≤ 140737488355328) (hcap : xs.length ≤ c) (hlen : (Lib.join (xs.map (·.data.toList)) sep.data.toList).length ≤ 140737488355328) :
    Calls Tryd.prog 67 #[.slice (some ⟨bk, o, none⟩) xs.length c, .string sep] w fun e w' => e = .returned (.string ⟨(Lib.join (xs.map (·.data.toList)) sep.data.toList).toArray⟩) ∧ Below w.heap.size w w' := Any.strings_Join Tryd.lays156 Tryd.Builder_Extra_156 bk o c xs sep w hcells hbk hN hcap hlen
def Tryd.laysM171_ren : Go.Shelf.Ren := ⟨fun | 171 => 56 | 243 => 74 | 246 => 87 | 283 => 97 | 284 => 98 | 285 => 99 | 286 => 100 | 129 => 109 | 317 => 108 | 318 => 110 | 319 => 111 | 320 => 112 | 337 => 118 | 338 => 119 | n => n, fun | 3 => 3 | 9 => 9 | 2 => 2 | 4 => 4 | 171 => 113 | 0 => 0 | 53 => 71 | 37 => 94 | 5 => 5 | 173 => 116 | 212 => 125 | 51 => 126 | 20 => 20 | 213 => 127 | 46 => 88 | 232 => 136 | 233 => 137 | n => n, fun | 17 => 1 | 18 => 4 | 19 => 5 | n => n⟩
theorem Tryd.laysM171 : Go.Proofs.LaysM.n171 Tryd.prog Tryd.laysM171_ren := {
  mixed := by kernel_rfl
  f129 := Tryd.func109.trans (congrArg some (by kernel_rfl))
  f171 := Tryd.func56.trans (congrArg some (by kernel_rfl))
  f243 := Tryd.func74.trans (congrArg some (by kernel_rfl))
  f246 := Tryd.func87.trans (congrArg some (by kernel_rfl))
  f283 := Tryd.func97.trans (congrArg some (by kernel_rfl))
  f284 := Tryd.func98.trans (congrArg some (by kernel_rfl))
  f285 := Tryd.func99.trans (congrArg some (by kernel_rfl))
  f286 := Tryd.func100.trans (congrArg some (by kernel_rfl))
  f317 := Tryd.func108.trans (congrArg some (by kernel_rfl))
  f318 := Tryd.func110.trans (congrArg some (by kernel_rfl))
  f319 := Tryd.func111.trans (congrArg some (by kernel_rfl))
  f320 := Tryd.func112.trans (congrArg some (by kernel_rfl))
  f337 := Tryd.func118.trans (congrArg some (by kernel_rfl))
  f338 := Tryd.func119.trans (congrArg some (by kernel_rfl))
  t0 := Tryd.underlying0
  a0 := Tryd.isAgg0
  z0 := Tryd.sizeOf0
  v0 := Tryd.zeroValue0
  t2 := Tryd.underlying2
  a2 := Tryd.isAgg2
  z2 := Tryd.sizeOf2
  v2 := Tryd.zeroValue2
  t3 := Tryd.underlying3
  a3 := Tryd.isAgg3
  z3 := Tryd.sizeOf3
  v3 := Tryd.zeroValue3
  t4 := Tryd.underlying4
  a4 := Tryd.isAgg4
  z4 := Tryd.sizeOf4
  v4 := Tryd.zeroValue4
  t5 := Tryd.underlying5
  a5 := Tryd.isAgg5
  z5 := Tryd.sizeOf5
  v5 := Tryd.zeroValue5
  t9 := Tryd.underlying9
  a9 := Tryd.isAgg9
  z9 := Tryd.sizeOf9
  v9 := Tryd.zeroValue9
  t20 := Tryd.underlying20
  a20 := Tryd.isAgg20
  z20 := Tryd.sizeOf20
  v20 := Tryd.zeroValue20
  t37 := Tryd.underlying94
  a37 := Tryd.isAgg94
  z37 := Tryd.sizeOf94
  v37 := Tryd.zeroValue94
  t46 := Tryd.underlying88
  a46 := Tryd.isAgg88
  z46 := Tryd.sizeOf88
  v46 := Tryd.zeroValue88
  t51 := Tryd.underlying126
  a51 := Tryd.isAgg126
  z51 := Tryd.sizeOf126
  v51 := Tryd.zeroValue126
  t53 := Tryd.underlying71
  a53 := Tryd.isAgg71
  z53 := Tryd.sizeOf71
  v53 := Tryd.zeroValue71
  t171 := Tryd.underlying113
  a171 := Tryd.isAgg113
  z171 := Tryd.sizeOf113
  v171 := Tryd.zeroValue113
  t173 := Tryd.underlying116
  a173 := Tryd.isAgg116
  z173 := Tryd.sizeOf116
  v173 := Tryd.zeroValue116
  t212 := Tryd.underlying125
  a212 := Tryd.isAgg125
  z212 := Tryd.sizeOf125
  v212 := Tryd.zeroValue125
  t213 := Tryd.underlying127
  a213 := Tryd.isAgg127
  z213 := Tryd.sizeOf127
  t232 := Tryd.underlying136
  a232 := Tryd.isAgg136
  z232 := Tryd.sizeOf136
  v232 := Tryd.zeroValue136
  t233 := Tryd.underlying137
  a233 := Tryd.isAgg137
  z233 := Tryd.sizeOf137
  v233 := Tryd.zeroValue137
  g17 := by kernel_rfl
  g18 := by kernel_rfl
  g19 := by kernel_rfl
  i0 := by kernel_rfl
  i2 := by kernel_rfl
  i3 := by kernel_rfl
  i4 := by kernel_rfl
  i5 := by kernel_rfl
  i9 := by kernel_rfl
  i20 := by kernel_rfl
  i37 := by kernel_rfl
  i46 := by kernel_rfl
  i51 := by kernel_rfl
  i53 := by kernel_rfl
  i171 := by kernel_rfl
  i173 := by kernel_rfl
  i212 := by kernel_rfl
  i232 := by kernel_rfl
  i233 := by kernel_rfl
  m17 := by kernel_rfl
  m18 := by kernel_rfl
  m19 := by kernel_rfl }
open Go.RowKit Go.Sort Go.Lib in
theorem Tryd.strconv_Itoa (n : Int) (h0 : -9223372036854775808 ≤ n) (h1 : n ≤ 9223372036854775807) (w : World) (htab : Lib.TabIs Tryd.prog w "internal/strconv.uint64pow10" .u64 Lib.pow10Tab) :
    Calls Tryd.prog 56 #[.int .i64 n] w fun e w' => e = .returned (.string ⟨(Lib.itoa n).toArray⟩) ∧ ∃ k os, w' = grow (w.drewN k) os := Any.strconv_Itoa Tryd.laysM171 n h0 h1 w htab
def Tryd.lays155_ren : Go.Shelf.Ren := ⟨fun | 155 => 57 | 154 => 75 | 138 => 88 | 165 => 81 | 143 => 89 | 166 => 82 | 197 => 90 | 169 => 83 | 195 => 101 | 218 => 102 | 240 => 95 | 241 => 96 | 219 => 103 | 260 => 104 | 276 => 106 | 277 => 107 | 217 => 113 | 225 => 114 | 224 => 115 | 267 => 116 | 266 => 120 | 314 => 121 | n => n, fun | 9 => 9 | 3 => 3 | 4 => 4 | 72 => 96 | 0 => 0 | 76 => 100 | 105 => 106 | 21 => 21 | 5 => 5 | 70 => 93 | 20 => 20 | 37 => 94 | 75 => 99 | 127 => 112 | 164 => 120 | 46 => 88 | 119 => 129 | 139 => 132 | 138 => 131 | 146 => 134 | 51 => 126 | 80 => 102 | n => n, fun | 1 => 0 | 3 => 2 | 4 => 3 | n => n⟩
theorem Tryd.lays155 : Go.Proofs.Lays.n155 Tryd.prog Tryd.lays155_ren := {
  mixed := by kernel_rfl
  f138 := Tryd.func88.trans (congrArg some (by kernel_rfl))
  f143 := Tryd.func89.trans (congrArg some (by kernel_rfl))
  f154 := Tryd.func75.trans (congrArg some (by kernel_rfl))
  f155 := Tryd.func57.trans (congrArg some (by kernel_rfl))
  f165 := Tryd.func81.trans (congrArg some (by kernel_rfl))
  f166 := Tryd.func82.trans (congrArg some (by kernel_rfl))
  f169 := Tryd.func83.trans (congrArg some (by kernel_rfl))
  f195 := Tryd.func101.trans (congrArg some (by kernel_rfl))
  f197 := Tryd.func90.trans (congrArg some (by kernel_rfl))
  f217 := Tryd.func113.trans (congrArg some (by kernel_rfl))
  f218 := Tryd.func102.trans (congrArg some (by kernel_rfl))
  f219 := Tryd.func103.trans (congrArg some (by kernel_rfl))
  f224 := Tryd.func115.trans (congrArg some (by kernel_rfl))
  f225 := Tryd.func114.trans (congrArg some (by kernel_rfl))
  f240 := Tryd.func95.trans (congrArg some (by kernel_rfl))
  f241 := Tryd.func96.trans (congrArg some (by kernel_rfl))
  f260 := Tryd.func104.trans (congrArg some (by kernel_rfl))
  f266 := Tryd.func120.trans (congrArg some (by kernel_rfl))
  f267 := Tryd.func116.trans (congrArg some (by kernel_rfl))
  f276 := Tryd.func106.trans (congrArg some (by kernel_rfl))
  f277 := Tryd.func107.trans (congrArg some (by kernel_rfl))
  f314 := Tryd.func121.trans (congrArg some (by kernel_rfl))
  t0 := Tryd.underlying0
  a0 := Tryd.isAgg0
  z0 := Tryd.sizeOf0
  v0 := Tryd.zeroValue0
  t3 := Tryd.underlying3
  a3 := Tryd.isAgg3
  z3 := Tryd.sizeOf3
  v3 := Tryd.zeroValue3
  t4 := Tryd.underlying4
  a4 := Tryd.isAgg4
  z4 := Tryd.sizeOf4
  v4 := Tryd.zeroValue4
  t5 := Tryd.underlying5
  a5 := Tryd.isAgg5
  z5 := Tryd.sizeOf5
  v5 := Tryd.zeroValue5
  t9 := Tryd.underlying9
  a9 := Tryd.isAgg9
  z9 := Tryd.sizeOf9
  v9 := Tryd.zeroValue9
  t20 := Tryd.underlying20
  a20 := Tryd.isAgg20
  z20 := Tryd.sizeOf20
  v20 := Tryd.zeroValue20
  t21 := Tryd.underlying21
  a21 := Tryd.isAgg21
  z21 := Tryd.sizeOf21
  v21 := Tryd.zeroValue21
  t37 := Tryd.underlying94
  a37 := Tryd.isAgg94
  z37 := Tryd.sizeOf94
  v37 := Tryd.zeroValue94
  t46 := Tryd.underlying88
  a46 := Tryd.isAgg88
  z46 := Tryd.sizeOf88
  v46 := Tryd.zeroValue88
  t51 := Tryd.underlying126
  a51 := Tryd.isAgg126
  z51 := Tryd.sizeOf126
  v51 := Tryd.zeroValue126
  t70 := Tryd.underlying93
  a70 := Tryd.isAgg93
  z70 := Tryd.sizeOf93
  v70 := Tryd.zeroValue93
  t72 := Tryd.underlying96
  a72 := Tryd.isAgg96
  z72 := Tryd.sizeOf96
  v72 := Tryd.zeroValue96
  t75 := Tryd.underlying99
  a75 := Tryd.isAgg99
  z75 := Tryd.sizeOf99
  v75 := Tryd.zeroValue99
  t76 := Tryd.underlying100
  a76 := Tryd.isAgg100
  z76 := Tryd.sizeOf100
  v76 := Tryd.zeroValue100
  t105 := Tryd.underlying106
  a105 := Tryd.isAgg106
  z105 := Tryd.sizeOf106
  v105 := Tryd.zeroValue106
  t119 := Tryd.underlying129
  a119 := Tryd.isAgg129
  z119 := Tryd.sizeOf129
  t127 := Tryd.underlying112
  a127 := Tryd.isAgg112
  z127 := Tryd.sizeOf112
  v127 := Tryd.zeroValue112
  t138 := Tryd.underlying131
  a138 := Tryd.isAgg131
  z138 := Tryd.sizeOf131
  v138 := Tryd.zeroValue131
  t139 := Tryd.underlying132
  a139 := Tryd.isAgg132
  z139 := Tryd.sizeOf132
  v139 := Tryd.zeroValue132
  t146 := Tryd.underlying134
  a146 := Tryd.isAgg134
  z146 := Tryd.sizeOf134
  v146 := Tryd.zeroValue134
  t164 := Tryd.underlying120
  a164 := Tryd.isAgg120
  z164 := Tryd.sizeOf120
  v164 := Tryd.zeroValue120
  g1 := by kernel_rfl
  g3 := by kernel_rfl
  g4 := by kernel_rfl }
theorem Tryd.Builder_Extra_155 : Builder.Extra Tryd.prog Tryd.lays155_ren := {
  sizeBuilder := by kernel_rfl
  liesBuilder := by kernel_rfl
  t5 := Tryd.underlying5
  a5 := Tryd.isAgg5
  z5 := Tryd.sizeOf5
  v5 := Tryd.zeroValue5
  infoByte := by kernel_rfl
  cellsByte := by kernel_rfl
  sizeByte := by kernel_rfl
  neB5 := by decide }
open Go.RowKit Go.Lib in
theorem Tryd.strings_ReplaceAll (s old new : ByteArray) (m : Int) (w : World) (hs : s.size < 4294967281) (hm : w.cell? ⟨0, 0, none⟩ = some (.int .i64 m)) (h1 : 1 ≤ old.size) (hlen : s.size + Lib.countB s old * new.size ≤ 140737488355328) :
    Calls Tryd.prog 57 #[.string s, .string old, .string new] w fun e w' =>
      e = .returned (.string ⟨(Lib.replaceAll s.data.toList old.data.toList new.data.toList).toArray⟩) ∧ Below w.heap.size w w' := Any.strings_ReplaceAll Tryd.lays155 Tryd.Builder_Extra_155 s old new m w hs hm h1 hlen
def Tryd.lays264_ren : Go.Shelf.Ren := ⟨fun | 264 => 53 | n => n, fun | 53 => 71 | 46 => 88 | n => n, fun | n => n⟩
theorem Tryd.lays264 : Go.Proofs.Lays.n264 Tryd.prog Tryd.lays264_ren := {
  mixed := by kernel_rfl
  f264 := Tryd.func53.trans (congrArg some (by kernel_rfl))
  t46 := Tryd.underlying88
  a46 := Tryd.isAgg88
  z46 := Tryd.sizeOf88
  v46 := Tryd.zeroValue88
  t53 := Tryd.underlying71
  a53 := Tryd.isAgg71
  z53 := Tryd.sizeOf71
  v53 := Tryd.zeroValue71 }
open Go.RowKit Go.Lib in
theorem Tryd.bits_Mul64 (x y : Nat) (hx : x < 18446744073709551616) (hy : y < 18446744073709551616) (w : World) :
    Calls Tryd.prog 53 #[.int .u64 x, .int .u64 y] w fun e w' => e = .returned (.tuple #[.int .u64 ((x * y / 18446744073709551616 : Nat) : Int), .int .u64 ((x * y % 18446744073709551616 : Nat) : Int)]) ∧ w' = w := Any.bits_Mul64 Tryd.lays264 x y hx hy w
end Go.Proofs

set_option linter.unusedVariables false
namespace Go.Proofs.YtccgmaeflmbmlaaDoor
open Go Go.Pu

def itoaB (n : Int) : ByteArray := ⟨(Lib.itoa n).toArray⟩
def replB (s o n : ByteArray) : ByteArray := ⟨(Lib.replaceAll s.data.toList o.data.toList n.data.toList).toArray⟩
def joinB (es : List (List PV)) (sep : ByteArray) : ByteArray := ⟨(Lib.join (es.map fun e => (cS e 0).data.toList) sep.data.toList).toArray⟩
def mulHi (x y : Int) : Int := x * y / 18446744073709551616
def mulLo (x y : Int) : Int := x * y % 18446744073709551616
def inU64 (x : Int) : Bool := decide (0 ≤ x ∧ x < 18446744073709551616)
def inI64 (x : Int) : Bool := decide (-9223372036854775808 ≤ x ∧ x ≤ 9223372036854775807)
def replOk (s o n : ByteArray) : Bool := decide (s.size < 4294967281 ∧ 1 ≤ o.size ∧ s.size + Lib.countB s o * n.size ≤ 140737488355328)
def joinOk (es : List (List PV)) (sep : ByteArray) : Bool := decide (es.length ≤ 140737488355328 ∧ (Lib.join (es.map fun e => (cS e 0).data.toList) sep.data.toList).length ≤ 140737488355328)

def gItoa : List PV → List Blk → Tr := fun xs hc => match xs, hc with
  | [.int .i64 n], [] => .test (inI64 n) (.ret (.str (itoaB n)) []) .fail
  | _, _ => .fail
def gMul64 : List PV → List Blk → Tr := fun xs hc => match xs, hc with
  | [.int .u64 x, .int .u64 y], [] => .test (inU64 x && inU64 y) (.ret (.tuple [.int .u64 (mulHi x y), .int .u64 (mulLo x y)]) []) .fail
  | _, _ => .fail
def gRepl : List PV → List Blk → Tr := fun xs hc => match xs, hc with
  | [.str s, .str o, .str n], [] => .test (replOk s o n) (.ret (.str (replB s o n)) []) .fail
  | _, _ => .fail
def gJoin : List PV → List Blk → Tr := fun xs hc => match xs, hc with
  | [.lst t es, .str sep], [] => if t = 9 then .test (joinOk es sep) (.ret (.str (joinB es sep)) []) .fail else .fail
  | [.nils, .str sep], [] => .ret (.str ⟨#[]⟩) []
  | _, _ => .fail

noncomputable abbrev XD : Ext := extT [(56, gItoa), (53, gMul64), (57, gRepl), (67, gJoin)] XB

end Go.Proofs.YtccgmaeflmbmlaaDoor

set_option linter.unusedVariables false
namespace Go.Proofs.YtccgmaeflmbmlaaDoor
open Go Go.Pu Go.RowKit

theorem tabPow {E : Env} (hI : Inv Tryd.prog E) : Lib.TabIs Tryd.prog E.w "internal/strconv.uint64pow10" .u64 Lib.pow10Tab := by
  obtain ⟨_, c, T, fz, h2, h3⟩ := hI.tab _ (List.mem_cons_self ..)
  have hg : Tryd.prog.globalNamed "internal/strconv.uint64pow10" = some 1 := by kernel_rfl
  unfold Lib.TabIs World.var?
  rw [hg]
  simp only [Option.bind_some]
  rw [h2]
  simp only
  rw [h3]

theorem tabMax {E : Env} (hI : Inv Tryd.prog E) : ∃ m, E.w.cell? ⟨0, 0, none⟩ = some (.int .i64 m) := by
  obtain ⟨_, c, T, fz, h2, m, h3⟩ := hI.tab _ (List.mem_cons_of_mem _ (List.mem_cons_self ..))
  refine ⟨m, ?_⟩
  unfold World.cell?
  simp only [h2, Option.isSome_none, Bool.false_eq_true, if_false, h3]

theorem drewN_grow (w : World) (k : Nat) (os : Array Obj) : Grow w (Sort.grow (w.drewN k) os) := by
  have h : (w.drewN k).heap = w.heap ∧ (w.drewN k).os = w.os ∧ (w.drewN k).tape = w.tape ∧ (w.drewN k).output = w.output := by
    induction k generalizing w with
    | zero => exact ⟨rfl, rfl, rfl, rfl⟩
    | succ k ih => exact ih w.drew
  obtain ⟨h1, h2, h3, h4⟩ := h
  refine ⟨by simp [Sort.grow, h1], by simp [Sort.grow, h2], by simp [Sort.grow, h3], by simp [Sort.grow, h4], fun k hk => ?_⟩
  simp [Sort.grow, h1, Array.getElem?_append, hk]

set_option maxRecDepth 100000 in
theorem eItoa : EOK Tryd.prog 56 gItoa := eok_rows fun xs hc r hg => by
  unfold gItoa at hg
  split at hg
  · rename_i n
    obtain ⟨hb, rfl⟩ := val_test hg
    have hb := of_decide_eq_true hb
    refine rowLib ⟨_, Tryd.func56, by kernel_rfl⟩ fun E vs hE hI hL => ?_
    obtain ⟨v, vs', rfl, h1, h2⟩ := repL_0 hL
    obtain rfl := repL_nil h2
    obtain rfl := h1.int_inv
    refine (Tryd.strconv_Itoa n hb.1 hb.2 E.w (tabPow hI)).mono ?_
    rintro e w' ⟨rfl, k, os, rfl⟩
    exact ⟨_, rfl, drewN_grow _ _ _, fun E' => .str _⟩
  · cases hg

set_option maxRecDepth 100000 in
theorem eMul64 : EOK Tryd.prog 53 gMul64 := eok_rows fun xs hc r hg => by
  unfold gMul64 at hg
  split at hg
  · rename_i x y
    obtain ⟨hb, rfl⟩ := val_test hg
    rw [Bool.and_eq_true] at hb
    have hx := of_decide_eq_true hb.1
    have hy := of_decide_eq_true hb.2
    refine rowLib ⟨_, Tryd.func53, by kernel_rfl⟩ fun E vs hE hI hL => ?_
    obtain ⟨v, vs', rfl, h1, h2⟩ := repL_0 hL
    obtain ⟨v', vs'', rfl, h3, h4⟩ := repL_0 h2
    obtain rfl := repL_nil h4
    obtain rfl := h1.int_inv
    obtain rfl := h3.int_inv
    obtain ⟨x', rfl⟩ : ∃ x' : Nat, x = x' := ⟨x.toNat, by omega⟩
    obtain ⟨y', rfl⟩ : ∃ y' : Nat, y = y' := ⟨y.toNat, by omega⟩
    refine (Tryd.bits_Mul64 x' y' (by omega) (by omega) E.w).mono ?_
    rintro e w' ⟨rfl, rfl⟩
    refine ⟨_, rfl, Grow.refl _, fun E' => .tuple _ _ rfl fun i hi => ?_⟩
    have : i = 0 ∨ i = 1 := by simp at hi; omega
    rcases this with rfl | rfl
    · have e1 : mulHi x' y' = ((x' * y' / 18446744073709551616 : Nat) : Int) := by simp [mulHi]
      simp only [e1]; exact .int _ _
    · have e1 : mulLo x' y' = ((x' * y' % 18446744073709551616 : Nat) : Int) := by simp [mulLo]
      simp only [e1]; exact .int _ _
  · cases hg

set_option maxRecDepth 100000 in
theorem eRepl : EOK Tryd.prog 57 gRepl := eok_rows fun xs hc r hg => by
  unfold gRepl at hg
  split at hg
  · rename_i s o n
    obtain ⟨hb, rfl⟩ := val_test hg
    have hb := of_decide_eq_true hb
    refine rowLib ⟨_, Tryd.func57, by kernel_rfl⟩ fun E vs hE hI hL => ?_
    obtain ⟨v, vs', rfl, h1, h2⟩ := repL_0 hL
    obtain ⟨v', vs'', rfl, h3, h4⟩ := repL_0 h2
    obtain ⟨v2, vs2, rfl, h5, h6⟩ := repL_0 h4
    obtain rfl := repL_nil h6
    obtain rfl := h1.str_inv
    obtain rfl := h3.str_inv
    obtain rfl := h5.str_inv
    obtain ⟨m, hm⟩ := tabMax hI
    refine (Tryd.strings_ReplaceAll s o n m E.w hb.1 hm hb.2.1 hb.2.2).mono ?_
    rintro e w' ⟨rfl, hw⟩
    exact ⟨_, rfl, grow_below hw, fun E' => .str _⟩
  · cases hg

theorem strs_of {es : List (List PV)} (h : ∀ i, i < es.length → cellsOK [.str] (es.getD i []) = true) : ∃ xs : List ByteArray, es = xs.map fun s => [.str s] := by
  induction es with
  | nil => exact ⟨[], rfl⟩
  | cons e es ih =>
    obtain ⟨xs, rfl⟩ := ih fun i hi => by simpa using h (i + 1) (by simpa using hi)
    have h0 := h 0 (by simp)
    match e, h0 with
    | [.str s], _ => exact ⟨s :: xs, rfl⟩

set_option maxRecDepth 100000 in
theorem eJoin : EOK Tryd.prog 67 gJoin := eok_rows fun xs hc r hg => by
  unfold gJoin at hg
  split at hg
  · rename_i t es sep
    split at hg
    · rename_i et
      subst et
      obtain ⟨hb, rfl⟩ := val_test hg
      have hb := of_decide_eq_true hb
      refine rowLib ⟨_, Tryd.func67, by kernel_rfl⟩ fun E vs hE hI hL => ?_
      obtain ⟨v, vs', rfl, h1, h2⟩ := repL_0 hL
      obtain ⟨v', vs'', rfl, h3, h4⟩ := repL_0 h2
      obtain rfl := repL_nil h4
      obtain rfl := h3.str_inv
      have e0 : joinB [] sep = ⟨#[]⟩ := rfl
      have hk1 : kds Tryd.prog 9 = [.str] := by kernel_rfl
      have hs1 : elSize Tryd.prog 9 = some 1 := by kernel_rfl
      generalize hes : es = es0 at h1
      cases h1 with
      | lst0 _ A cap hA =>
        rw [e0]
        refine (Tryd.strings_Join_none A cap sep E.w).mono ?_
        rintro e w' ⟨rfl, rfl⟩
        exact ⟨_, rfl, Grow.refl _, fun E' => .str _⟩
      | lst _ _ blk o cap sz c T fz hs hw him hcap hlen hk hr =>
        subst hes
        rw [hk1] at hk
        obtain ⟨ss, rfl⟩ := strs_of hk
        rw [hs1] at hs
        obtain rfl := Option.some.inj hs
        have em : ((ss.map fun s => [PV.str s]).map fun e => (cS e 0).data.toList) = ss.map (·.data.toList) := by
          rw [List.map_map]; rfl
        unfold joinB at *
        rw [em] at hb ⊢
        rw [List.length_map] at hb hcap hlen ⊢
        refine (Tryd.strings_Join blk o cap ss sep E.w (fun j x hj => ?_) (heap_lt hw) hb.1 hcap hb.2).mono ?_
        · have hjl : j < ss.length := by
            rcases Nat.lt_or_ge j ss.length with h | h
            · exact h
            · rw [List.getElem?_eq_none h] at hj; cases hj
          have := hr j 0 (by simpa using hjl) (by omega)
          simp only [List.getD, List.getElem?_map, hj, Option.map_some, Option.getD_some, List.getElem?_cons_zero] at this
          have h9 := this.str_inv
          simp only [Nat.mul_one, Nat.add_zero] at h9
          have hlt : o + j < c.size := by omega
          rw [Array.getD, dif_pos hlt] at h9
          unfold World.cell?
          simp only [hw, Option.isSome_none, Bool.false_eq_true, if_false]
          rw [Array.getElem?_eq_getElem hlt]
          exact congrArg some h9
        · rintro e w' ⟨rfl, hw'⟩
          exact ⟨_, rfl, grow_below hw', fun E' => .str _⟩
    · cases hg
  · rename_i sep
    cases hg
    refine rowLib ⟨_, Tryd.func67, by kernel_rfl⟩ fun E vs hE hI hL => ?_
    obtain ⟨v, vs', rfl, h1, h2⟩ := repL_0 hL
    obtain ⟨v', vs'', rfl, h3, h4⟩ := repL_0 h2
    obtain rfl := repL_nil h4
    obtain rfl := h3.str_inv
    cases h1 with
    | nils =>
      refine (Tryd.strings_Join_none none 0 sep E.w).mono ?_
      rintro e w' ⟨rfl, rfl⟩
      exact ⟨_, rfl, Grow.refl _, fun E' => .str _⟩
  · cases hg

theorem xD : XOK Tryd.prog XD := xokT xB (List.forall_mem_cons.2 ⟨eItoa, List.forall_mem_cons.2 ⟨eMul64, List.forall_mem_cons.2 ⟨eRepl, List.forall_mem_cons.2 ⟨eJoin, fun _ h => nomatch h⟩⟩⟩⟩)

end Go.Proofs.YtccgmaeflmbmlaaDoor

set_option linter.unusedVariables false
namespace Go.Proofs.YtccgmaeflmbmlaaDoor
open Go Go.Pu Go.RowKit

def seatLaid : List (String × DataW Unit) := [("math/bits.deBruijn32tab", Rows.laid_math_bits_deBruijn32tab), ("math/bits.deBruijn64tab", Rows.laid_math_bits_deBruijn64tab), ("internal/strconv.uint64pow10", Rows.laid_internal_strconv_uint64pow10), ("unicode/utf8.acceptRanges", Rows.laid_unicode_utf8_acceptRanges), ("unicode/utf8.first", Rows.laid_unicode_utf8_first)]

theorem laidPlain (w : World) : laidMetH Tryd.prog seatLaid w = laidMet Tryd.prog seatLaid w := MakeChecks.laidMetH_plain _ _ _ (by kernel_rfl)

theorem laidWorld (os : Os) (args : Array Value) : laidMetH Tryd.prog seatLaid ((World.laidAll Tryd.prog os seatLaid).forCall (fun _ _ => 0) ⟨#[], args, []⟩).memory := by
  rw [laidPlain]; exact laidMet_laidAll _ (by kernel_rfl) (by kernel_rfl)

theorem cells_of_var {P : Program} {w : World} {n : String} {g : Nat} {cs : Array Value} (hg : P.globalNamed n = some g) (h : w.var? P n = some cs) : ∃ T fz, w.heap[g]? = some (.cells cs T fz) := by
  simp only [World.var?, hg, Option.bind_some] at h
  split at h
  · rename_i c T fz hw
    cases h
    exact ⟨T, fz, hw⟩
  · cases h

theorem cells_of_cell {w : World} {g : Nat} {v : Value} (h : w.cell? ⟨g, 0, none⟩ = some v) : ∃ c T fz, w.heap[g]? = some (.cells c T fz) ∧ c[0]? = some v := by
  unfold World.cell? at h
  split at h
  · rename_i c T fz hw
    exact ⟨c, T, fz, hw, by simpa using h⟩
  · cases h

set_option maxRecDepth 100000 in
theorem tabs_of (W : World) (h : laidMetH Tryd.prog seatLaid W) (hs : W.ShapedOpen Tryd.prog) : Tab W fun b => b < W.heap.size := by
  rw [laidPlain] at h
  intro x hx
  simp only [seatTabs, List.mem_cons, List.mem_nil_iff, or_false] at hx
  rcases hx with rfl | rfl
  · obtain ⟨g, t, cs, fuel, p, h1, h2, h3, h4⟩ := Lib.laidMet.reads h (n := "internal/strconv.uint64pow10") (d := Rows.laid_internal_strconv_uint64pow10) (by simp [seatLaid])
    obtain rfl := Option.some.inj ((show Tryd.prog.globalNamed "internal/strconv.uint64pow10" = some 1 by kernel_rfl).symm.trans h1)
    obtain rfl := Option.some.inj ((show (Tryd.prog.globals[1]?).map (·.type) = some 125 by kernel_rfl).symm.trans h2)
    obtain ⟨T, fz, hw⟩ := cells_of_var h1 h3
    have hd : (Rows.laid_internal_strconv_uint64pow10 : DataW Unit) = Lib.tabData .u64 Lib.pow10Tab := by rfl
    rw [hd] at h4
    have hc := Lib.cells_of_tab (t := 125) (e := 71) (n := 20) (by kernel_rfl) (by kernel_rfl) (by kernel_rfl) (by kernel_rfl) h4
    refine ⟨heap_lt hw, cs, T, fz, hw, ?_⟩
    show cs = _
    rw [← hc]
  · obtain ⟨m, hm⟩ := cell_of_shapedOpen_int (P := Tryd.prog) (g := 0) (t := 3) (zero := #[.int .i64 0]) (k := .i64) hs (of_decide_eq_true (by kernel_rfl)) (by kernel_rfl) rfl (by kernel_rfl) (by kernel_rfl) (by kernel_rfl)
    obtain ⟨c, T, fz, hw, h0⟩ := cells_of_cell hm
    exact ⟨heap_lt hw, c, T, fz, hw, m, h0⟩

end Go.Proofs.YtccgmaeflmbmlaaDoor

set_option linter.unusedVariables false
set_option linter.unusedSimpArgs false
namespace Go.Proofs.YtccgmaeflmbmlaaDoor
open Go Go.Pu Go.RowKit

def gGrow : List PV → List Blk → Tr := fun xs hc => match xs, hc with
  | [.nils, .int .i64 n], [] => .test (decide (0 ≤ n ∧ n * 32 ≤ 140737488355328)) (.ret (.all 0) [.arr 25 [] true]) .fail
  | _, _ => .fail

set_option maxHeartbeats 4000000 in
set_option maxRecDepth 100000 in
theorem growRow0 (w : World) : Calls Tryd.prog 80 #[.slice none 0 0, .int .i64 0] w fun e w' => e = .returned (.slice none 0 0) ∧ w' = w := by
  go_enter Tryd.func80, Tryd.ntmps80
  go_wp2
  go_ret
  exact ⟨rfl, rfl⟩

set_option maxHeartbeats 4000000 in
set_option maxRecDepth 100000 in
theorem growRow1 (n : Nat) (h0 : 0 < n) (hn : n * 32 ≤ 140737488355328) (w : World) : ∃ (c : Array Value), n * 3 ≤ c.size ∧ n ≤ grownCap w n 0 25 ∧ grownCap w n 0 25 * 3 ≤ c.size ∧
    Calls Tryd.prog 80 #[.slice none 0 0, .int .i64 n] w fun e w' => e = .returned (.slice (some ⟨w.heap.size, 0, none⟩) 0 (grownCap w n 0 25)) ∧ w' = w.drew.alloc (.cells c 25) := by
  obtain ⟨i0, hi0, hs0, hb0, z, hz0, hzc⟩ : ∃ i0 : TypeInfo, Tryd.prog.info? 25 = some i0 ∧ i0.size = 3 ∧ i0.bytes = 32 ∧ ∃ z, i0.zero = some z ∧ z.cells.size = 3 := by
    have a1 : (Tryd.prog.info? 25).map (·.size) = some 3 := by kernel_rfl
    have a2 : (Tryd.prog.info? 25).map (·.bytes) = some 32 := by kernel_rfl
    have a3 : ((Tryd.prog.info? 25).bind fun i => i.zero.map (·.cells.size)) = some 3 := by kernel_rfl
    cases hi : Tryd.prog.info? 25 with
    | none => rw [hi] at a1; cases a1
    | some i =>
      rw [hi] at a1 a2 a3
      cases hz : i.zero with
      | none => simp [hz] at a3
      | some z => exact ⟨i, rfl, by simpa using a1, by simpa using a2, z, hz, by simpa [hz] using a3⟩
  have hge := grownCap_ge w n 0 25
  have hrz : ∀ ty, (Builtin.append_ #[46, 3] ty #[.slice none 0 0, .int .i64 (n : Int)]).run Tryd.prog w =
      .ok (.slice (some ⟨w.heap.size, 0, none⟩) n (grownCap w n 0 25)) (w.drew.alloc (.cells (Builtin.zeroCells z.cells n ++ Builtin.zeroCells z.cells (grownCap w n 0 25 - n)) 25)) := fun ty =>
    Lib.run_append_nil_zeros w 46 3 ty 25 i0 z .i64 .i64 (by kernel_rfl) (by kernel_rfl) hi0 hz0 n h0 (by omega) (by omega) (by rw [hb0]; omega)
  have hG63 : grownCap w n 0 25 ≤ 9223372036854775807 := by
    have := grownCap_le_maxLen w n 0 25 (by unfold maxLen; omega)
    unfold maxLen at this
    omega
  refine ⟨Builtin.zeroCells z.cells n ++ Builtin.zeroCells z.cells (grownCap w n 0 25 - n), ?_, hge, ?_, ?_⟩
  · rw [Array.size_append, size_zeroCells', size_zeroCells', hzc]; omega
  · rw [Array.size_append, size_zeroCells', size_zeroCells', hzc]; omega
  · generalize grownCap w n 0 25 = G at *
    generalize Builtin.zeroCells z.cells n ++ Builtin.zeroCells z.cells (G - n) = C at *
    have h1 : ¬ ((n : Int) < 0) := by omega
    have h3 : wrap64 ((n : Int) - 0) = (n : Int) := by unfold wrap64; omega
    have h4 : (n : Int) > 0 := by omega
    go_enter Tryd.func80, Tryd.ntmps80
    go_wp2_with (at_builtin; refine Lib.wpList_append_run _ rfl _ _ _ _ rfl _ _ rfl rfl _ _ (hrz _) ?_)
    all_goals (go_ret; exact ⟨rfl, rfl⟩)

set_option maxRecDepth 100000 in
theorem eGrow : EOK Tryd.prog 80 gGrow := eok_rows fun xs hc r hg => by
  unfold gGrow at hg
  split at hg
  · rename_i n
    obtain ⟨hb, rfl⟩ := val_test hg
    have hb := of_decide_eq_true hb
    refine ⟨⟨_, Tryd.func80, by kernel_rfl⟩, fun E vs hE hok hI hL => ?_⟩
    obtain ⟨v, vs', rfl, h1, h2⟩ := repL_0 hL
    obtain ⟨v', vs'', rfl, h3, h4⟩ := repL_0 h2
    obtain rfl := repL_nil h4
    obtain rfl := h3.int_inv
    have hs : elSize Tryd.prog 25 = some 3 := by kernel_rfl
    cases h1 with
    | nils =>
      by_cases h0 : n = 0
      · subst h0
        refine (growRow0 E.w).mono ?_
        rintro e w' ⟨rfl, rfl⟩
        obtain ⟨E', e1, e2, e3, e4, e5⟩ := add_none (al := none) hI trivial 25 hs none
        rw [hE] at e2 e5
        exact ⟨_, E', rfl, e1, e2, e3.toK (Nat.zero_le _), e4, e5⟩
      · obtain ⟨m, rfl⟩ : ∃ m : Nat, n = m := ⟨n.toNat, by omega⟩
        obtain ⟨c, c1, c2, c3, c4⟩ := growRow1 m (by omega) (by omega) E.w
        refine c4.mono ?_
        rintro e w' ⟨rfl, rfl⟩
        have hG : Grow E.w (E.w.drew.alloc (.cells c 25)) := by
          refine ⟨by show _ ≤ (E.w.heap.push _).size; simp, rfl, rfl, rfl, fun k hk => ?_⟩
          show (E.w.heap.push _)[k]? = E.w.heap[k]?
          simp [Array.getElem?_push, Nat.ne_of_lt hk]
        obtain ⟨E', e1, e2, e3, e4, e5⟩ := add_arr (al := none) hI trivial 25 25 hs (es := []) (c := c) (w' := E.w.drew.alloc (.cells c 25)) (blk := E.w.heap.size) hG (Nat.le_refl _)
          (show (E.w.heap.push _)[E.w.heap.size]? = _ by simp) (by simp) (fun i hi => by simp at hi) (fun i j hi hj => by simp at hi) (cap := grownCap E.w m 0 25) (by simp) c3
        rw [hE] at e2 e5
        exact ⟨_, E', rfl, e1, e2, e3.toK (Nat.zero_le _), e4, e5⟩
  · cases hg

/-- the tables that the laws of rows stand on: for what is evaluated outright, and above the values' table -/
noncomputable abbrev XG : Ext := extT [(80, gGrow)] XD
theorem xG : XOK Tryd.prog XG := xok1 xD eGrow

end Go.Proofs.YtccgmaeflmbmlaaDoor
