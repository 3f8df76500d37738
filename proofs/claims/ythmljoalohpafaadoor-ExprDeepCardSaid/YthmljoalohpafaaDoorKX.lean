/- Texts of this seat, one behind the other. -/
import Derived.Test.YthmljoalohpafaaDoorTB
import Derived.Test.YthmljoalohpafaaDoorRows
import Derived.Lib.Strings
import Derived.Lib.Slices
import Derived.Lib.Walk
import Derived.Lib.Bytealg
import Derived.KernelRfl
import Derived.Test.YthmljoalohpafaaDoorTD
import Derived.Shelf.LaysM
import Derived.Shelf.Strconv.Itoa3
import Derived.Shelf.Strings.OnBuilder
import Derived.Shelf.Strings.Replace
import Derived.Shelf.Bits.Mul64
import Derived.Test.YthmljoalohpafaaDoorProg
import Derived.Test.YthmljoalohpafaaDoorTG
import Derived.Lib.ItoaNum
import Derived.Lib.Replace
import Derived.Lib.Join
import Derived.Shelf.Vars
import Derived.Lib.LaidU8
import Derived.Lib.LaidTab
import Derived.MakeChecks
import Derived.Lay
import Derived.LaidLaws
namespace Go.Proofs.YthmljoalohpafaaDoor
open Go.Pu

set_option maxHeartbeats 1000000 in
set_option maxRecDepth 100000 in
theorem bytealg_CompareString (a b : ByteArray) (w : World) :
    Calls Tryd.prog 132 #[.string a, .string b] w fun e w' => e = .returned (.int .i64 (Lib.compareBytes a.data.toList b.data.toList)) ∧ w' = w := by
  go_enter Tryd.func132, Tryd.ntmps132
  go_wp2
  rw [run_callFunc_extern Tryd.func145 (by kernel_rfl) (by kernel_rfl) (by kernel_rfl) (e := Extern.BytealgCompare.compare) (by kernel_rfl), Lib.run_compareString]
  simp only [Result.andThen]
  rw [Oper.upon_value]
  go_wp2
  go_ret
  exact ⟨rfl, rfl⟩

set_option maxHeartbeats 1000000 in
theorem strings_Compare (a b : ByteArray) (w : World) :
    Calls Tryd.prog 117 #[.string a, .string b] w fun e w' => e = .returned (.int .i64 (Lib.compareBytes a.data.toList b.data.toList)) ∧ w' = w := by
  go_enter Tryd.func117, Tryd.ntmps117
  go_wp2_with (go_at_call 132; refine (bytealg_CompareString _ _ _).mono ?_; rintro e w' ⟨rfl, rfl⟩)
  go_ret
  exact ⟨rfl, rfl⟩

theorem mixed : Tryd.prog.follows .mixedOrders = true := by kernel_rfl

def namedB (P : Program) : Bool := P.funcs.toList.all fun fn => fn.body.isNone || fn.name != "runtime.NumGoroutine"

theorem named_of {P : Program} (h : namedB P = true) : Named P := by
  intro f fn hf hb hn
  have hm : fn ∈ P.funcs.toList := by
    have := Array.mem_of_getElem? hf
    simpa using this
  have := List.all_eq_true.1 h fn hm
  rw [Bool.or_eq_true] at this
  rcases this with h1 | h1
  · cases hh : fn.body <;> simp_all
  · rw [hn] at h1; simp at h1

set_option maxRecDepth 100000 in
theorem named : Named Tryd.prog := named_of (by kernel_rfl)

def X0 : Ext := fun f => if f = 117 then some fun | [.str a, .str b], [] => .ret (.int .i64 (Lib.compareBytes a.data.toList b.data.toList)) [] | _, _ => .fail else none

theorem x0 : XOK Tryd.prog X0 := by
  intro f g xs hc r hf hg
  unfold X0 at hf
  split at hf
  · rename_i hf31
    subst hf31
    cases hf
    refine ⟨⟨_, Tryd.func117, by kernel_rfl⟩, fun E vs hE hbk hI hL => ?_⟩
    dsimp only at hg
    split at hg
    · rename_i a b
      cases hg
      obtain ⟨hl, hr⟩ := hL
      match vs, hl, hr with
      | [u, v], _, hr =>
        have h0 := (hr 0 (by simp)).str_inv
        have h1 := (hr 1 (by simp)).str_inv
        simp at h0 h1
        subst h0
        subst h1
        refine (strings_Compare a b E.w).mono ?_
        rintro e w' ⟨rfl, rfl⟩
        exact ⟨_, E, rfl, rfl, hE, (Trans.refl E).toK (Nat.zero_le _), hI, .int _ _⟩
    · cases hg
  · cases hf

theorem rids : ridsOK Tryd.prog = true := by kernel_rfl
theorem own : ownKnob Tryd.prog.godebug = none := by kernel_rfl
theorem laidOut : laidOutB Tryd.prog = true := by kernel_rfl

end Go.Proofs.YthmljoalohpafaaDoor

set_option linter.unusedVariables false
namespace Go.Proofs.YthmljoalohpafaaDoor
open Go.Pu

def L0 : FuncId → Nat → Option (List Nat) := fun _ _ => none
def M0 : FuncId → Bool := fun _ => false

theorem cloneRow1 (e : List PV) (es : List (List PV)) : callK br Tryd.prog X0 M0 L0 noLS 10 59 [.lst 34 (e :: es)] [] (fun y => fixR Tryd.prog [] 0 y) =
    br (decide ((0 + (e :: es).length) * 32 ≤ 140737488355328)) (some (.all 0, [.arr 34 (e :: es) true])) none := by rw [← callF_eq]; kernel_rfl
theorem cloneRow2 : callK br Tryd.prog X0 M0 L0 noLS 10 59 [.nils] [] (fun y => fixR Tryd.prog [1000000 * (2 * 34 + 1)] 0 y) =
    some (.all 0, [.arr 34 [] true]) := by rw [← callF_eq]; kernel_rfl
theorem cloneRow3 : callK br Tryd.prog X0 M0 L0 noLS 10 59 [.new 34 [[]]] [] (fun y => fixR Tryd.prog [] 0 y) =
    some (.all 0, [.arr 34 [] true]) := by rw [← callF_eq]; kernel_rfl

theorem eCloneRow : EOK Tryd.prog 59 (gClone 34 32) :=
  eokClone (fun e es h => rowAt_of mixed named x0 (noLS_ok _ _ _ _) (fuel := 10) (plan := []) ((cloneRow1 e es).trans (br_pos (decide_eq_true h))))
    (rowAt_of mixed named x0 (noLS_ok _ _ _ _) (fuel := 10) (plan := [1000000 * (2 * 34 + 1)]) cloneRow2)
    (rowAt_of mixed named x0 (noLS_ok _ _ _ _) (fuel := 10) (plan := []) cloneRow3)

noncomputable abbrev XB : Ext := extT [(59, gClone 34 32)] X0
theorem xB : XOK Tryd.prog XB := xok1 x0 eCloneRow

end Go.Proofs.YthmljoalohpafaaDoor

namespace Go.Proofs
open Go.Shelf
def Tryd.lays156_ren : Go.Shelf.Ren := ⟨fun | 156 => 62 | 165 => 84 | 166 => 85 | 169 => 86 | 240 => 102 | 241 => 103 | 276 => 122 | 277 => 123 | n => n, fun | 31 => 99 | 9 => 9 | 3 => 3 | 4 => 4 | 0 => 0 | 20 => 20 | 72 => 124 | 76 => 127 | 70 => 121 | 37 => 122 | 75 => 126 | 127 => 142 | 164 => 161 | 5 => 5 | 80 => 129 | n => n, fun | n => n⟩
theorem Tryd.lays156 : Go.Proofs.Lays.n156 Tryd.prog Tryd.lays156_ren := {
  mixed := by kernel_rfl
  f156 := Tryd.func62.trans (congrArg some (by kernel_rfl))
  f165 := Tryd.func84.trans (congrArg some (by kernel_rfl))
  f166 := Tryd.func85.trans (congrArg some (by kernel_rfl))
  f169 := Tryd.func86.trans (congrArg some (by kernel_rfl))
  f240 := Tryd.func102.trans (congrArg some (by kernel_rfl))
  f241 := Tryd.func103.trans (congrArg some (by kernel_rfl))
  f276 := Tryd.func122.trans (congrArg some (by kernel_rfl))
  f277 := Tryd.func123.trans (congrArg some (by kernel_rfl))
  t0 := Tryd.underlying0
  a0 := Tryd.isAgg0
  z0 := Tryd.sizeOf0
  v0 := Tryd.zeroValue0
  t3 := Tryd.underlying3
  a3 := Tryd.isAgg3
  z3 := Tryd.sizeOf3
  v3 := Tryd.zeroValue3
  t4 := Tryd.underlying4
  a4 := Tryd.isAgg4
  z4 := Tryd.sizeOf4
  v4 := Tryd.zeroValue4
  t9 := Tryd.underlying9
  a9 := Tryd.isAgg9
  z9 := Tryd.sizeOf9
  v9 := Tryd.zeroValue9
  t20 := Tryd.underlying20
  a20 := Tryd.isAgg20
  z20 := Tryd.sizeOf20
  v20 := Tryd.zeroValue20
  t31 := Tryd.underlying99
  a31 := Tryd.isAgg99
  z31 := Tryd.sizeOf99
  v31 := Tryd.zeroValue99
  t37 := Tryd.underlying122
  a37 := Tryd.isAgg122
  z37 := Tryd.sizeOf122
  v37 := Tryd.zeroValue122
  t70 := Tryd.underlying121
  a70 := Tryd.isAgg121
  z70 := Tryd.sizeOf121
  v70 := Tryd.zeroValue121
  t72 := Tryd.underlying124
  a72 := Tryd.isAgg124
  z72 := Tryd.sizeOf124
  v72 := Tryd.zeroValue124
  t75 := Tryd.underlying126
  a75 := Tryd.isAgg126
  z75 := Tryd.sizeOf126
  v75 := Tryd.zeroValue126
  t76 := Tryd.underlying127
  a76 := Tryd.isAgg127
  z76 := Tryd.sizeOf127
  v76 := Tryd.zeroValue127
  t127 := Tryd.underlying142
  a127 := Tryd.isAgg142
  z127 := Tryd.sizeOf142
  v127 := Tryd.zeroValue142
  t164 := Tryd.underlying161
  a164 := Tryd.isAgg161
  z164 := Tryd.sizeOf161
  v164 := Tryd.zeroValue161 }
theorem Tryd.Builder_Extra_156 : Builder.Extra Tryd.prog Tryd.lays156_ren := {
  sizeBuilder := by kernel_rfl
  liesBuilder := by kernel_rfl
  t5 := Tryd.underlying5
  a5 := Tryd.isAgg5
  z5 := Tryd.sizeOf5
  v5 := Tryd.zeroValue5
  infoByte := by kernel_rfl
  cellsByte := by kernel_rfl
  sizeByte := by kernel_rfl
  neB5 := by decide }
open Go.RowKit in
theorem Tryd.strings_Join_none (a : Option Addr) (c : Nat) (sep : ByteArray) (w : World) :
    Calls Tryd.prog 62 #[.slice a 0 c, .string sep] w fun e w' => e = .returned (.string ⟨#[]⟩) ∧ w' = w := Any.strings_Join_none Tryd.lays156 Tryd.Builder_Extra_156 a c sep w
open Go.RowKit in
theorem Tryd.strings_Join (bk o c : Nat) (xs : List ByteArray) (sep : ByteArray) (w : World) (hcells : ∀ (j : Nat) x, xs[j]? = some x → w.cell? ⟨bk, o + j, none⟩ = some (.string x)) (hbk : bk < w.heap.size) (hN : xs.length ≤ 140737488355328) (hcap : xs.length ≤ c) (hlen : (Lib.join (xs.map (·.data.toList)) sep.data.toList).length ≤ 140737488355328) :
    Calls Tryd.prog 62 #[.slice (some ⟨bk, o, none⟩) xs.length c, .string sep] w fun e w' => e = .returned (.string ⟨(Lib.join (xs.map (·.data.toList)) sep.data.toList).toArray⟩) ∧ Below w.heap.size w w' := Any.strings_Join Tryd.lays156 Tryd.Builder_Extra_156 bk o c xs sep w hcells hbk hN hcap hlen
def Tryd.laysM171_ren : Go.Shelf.Ren := ⟨fun | 171 => 61 | 243 => 83 | 246 => 101 | 283 => 118 | 284 => 119 | 285 => 120 | 286 => 121 | 129 => 134 | 317 => 133 | 318 => 135 | 319 => 136 | 320 => 137 | 337 => 146 | 338 => 147 | n => n, fun | 3 => 3 | 9 => 9 | 2 => 2 | 4 => 4 | 171 => 156 | 0 => 0 | 53 => 146 | 37 => 122 | 5 => 5 | 173 => 159 | 212 => 169 | 51 => 170 | 20 => 20 | 213 => 171 | 46 => 140 | 232 => 182 | 233 => 183 | n => n, fun | 17 => 0 | 18 => 4 | 19 => 5 | n => n⟩
theorem Tryd.laysM171 : Go.Proofs.LaysM.n171 Tryd.prog Tryd.laysM171_ren := {
  mixed := by kernel_rfl
  f129 := Tryd.func134.trans (congrArg some (by kernel_rfl))
  f171 := Tryd.func61.trans (congrArg some (by kernel_rfl))
  f243 := Tryd.func83.trans (congrArg some (by kernel_rfl))
  f246 := Tryd.func101.trans (congrArg some (by kernel_rfl))
  f283 := Tryd.func118.trans (congrArg some (by kernel_rfl))
  f284 := Tryd.func119.trans (congrArg some (by kernel_rfl))
  f285 := Tryd.func120.trans (congrArg some (by kernel_rfl))
  f286 := Tryd.func121.trans (congrArg some (by kernel_rfl))
  f317 := Tryd.func133.trans (congrArg some (by kernel_rfl))
  f318 := Tryd.func135.trans (congrArg some (by kernel_rfl))
  f319 := Tryd.func136.trans (congrArg some (by kernel_rfl))
  f320 := Tryd.func137.trans (congrArg some (by kernel_rfl))
  f337 := Tryd.func146.trans (congrArg some (by kernel_rfl))
  f338 := Tryd.func147.trans (congrArg some (by kernel_rfl))
  t0 := Tryd.underlying0
  a0 := Tryd.isAgg0
  z0 := Tryd.sizeOf0
  v0 := Tryd.zeroValue0
  t2 := Tryd.underlying2
  a2 := Tryd.isAgg2
  z2 := Tryd.sizeOf2
  v2 := Tryd.zeroValue2
  t3 := Tryd.underlying3
  a3 := Tryd.isAgg3
  z3 := Tryd.sizeOf3
  v3 := Tryd.zeroValue3
  t4 := Tryd.underlying4
  a4 := Tryd.isAgg4
  z4 := Tryd.sizeOf4
  v4 := Tryd.zeroValue4
  t5 := Tryd.underlying5
  a5 := Tryd.isAgg5
  z5 := Tryd.sizeOf5
  v5 := Tryd.zeroValue5
  t9 := Tryd.underlying9
  a9 := Tryd.isAgg9
  z9 := Tryd.sizeOf9
  v9 := Tryd.zeroValue9
  t20 := Tryd.underlying20
  a20 := Tryd.isAgg20
  z20 := Tryd.sizeOf20
  v20 := Tryd.zeroValue20
  t37 := Tryd.underlying122
  a37 := Tryd.isAgg122
  z37 := Tryd.sizeOf122
  v37 := Tryd.zeroValue122
  t46 := Tryd.underlying140
  a46 := Tryd.isAgg140
  z46 := Tryd.sizeOf140
  v46 := Tryd.zeroValue140
  t51 := Tryd.underlying170
  a51 := Tryd.isAgg170
  z51 := Tryd.sizeOf170
  v51 := Tryd.zeroValue170
  t53 := Tryd.underlying146
  a53 := Tryd.isAgg146
  z53 := Tryd.sizeOf146
  v53 := Tryd.zeroValue146
  t171 := Tryd.underlying156
  a171 := Tryd.isAgg156
  z171 := Tryd.sizeOf156
  v171 := Tryd.zeroValue156
  t173 := Tryd.underlying159
  a173 := Tryd.isAgg159
  z173 := Tryd.sizeOf159
  v173 := Tryd.zeroValue159
  t212 := Tryd.underlying169
  a212 := Tryd.isAgg169
  z212 := Tryd.sizeOf169
  v212 := Tryd.zeroValue169
  t213 := Tryd.underlying171
  a213 := Tryd.isAgg171
  z213 := Tryd.sizeOf171
  t232 := Tryd.underlying182
  a232 := Tryd.isAgg182
  z232 := Tryd.sizeOf182
  v232 := Tryd.zeroValue182
  t233 := Tryd.underlying183
  a233 := Tryd.isAgg183
  z233 := Tryd.sizeOf183
  v233 := Tryd.zeroValue183
  g17 := by kernel_rfl
  g18 := by kernel_rfl
  g19 := by kernel_rfl
  i0 := by kernel_rfl
  i2 := by kernel_rfl
  i3 := by kernel_rfl
  i4 := by kernel_rfl
  i5 := by kernel_rfl
  i9 := by kernel_rfl
  i20 := by kernel_rfl
  i37 := by kernel_rfl
  i46 := by kernel_rfl
  i51 := by kernel_rfl
  i53 := by kernel_rfl
  i171 := by kernel_rfl
  i173 := by kernel_rfl
  i212 := by kernel_rfl
  i232 := by kernel_rfl
  i233 := by kernel_rfl
  m17 := by kernel_rfl
  m18 := by kernel_rfl
  m19 := by kernel_rfl }
open Go.RowKit Go.Sort Go.Lib in
theorem Tryd.strconv_Itoa (n : Int) (h0 : -9223372036854775808 ≤ n) (h1 : n ≤ 9223372036854775807) (w : World) (htab : Lib.TabIs Tryd.prog w "internal/strconv.uint64pow10" .u64 Lib.pow10Tab) :
    Calls Tryd.prog 61 #[.int .i64 n] w fun e w' => e = .returned (.string ⟨(Lib.itoa n).toArray⟩) ∧ ∃ k os, w' = grow (w.drewN k) os := Any.strconv_Itoa Tryd.laysM171 n h0 h1 w htab
def Tryd.lays155_ren : Go.Shelf.Ren := ⟨fun | 155 => 88 | 154 => 105 | 138 => 124 | 165 => 84 | 143 => 125 | 166 => 85 | 197 => 126 | 169 => 86 | 195 => 138 | 218 => 139 | 240 => 102 | 241 => 103 | 219 => 140 | 260 => 141 | 276 => 122 | 277 => 123 | 217 => 148 | 225 => 149 | 224 => 150 | 267 => 151 | 266 => 152 | 314 => 153 | n => n, fun | 9 => 9 | 3 => 3 | 4 => 4 | 72 => 124 | 0 => 0 | 76 => 127 | 105 => 164 | 21 => 21 | 5 => 5 | 70 => 121 | 20 => 20 | 37 => 122 | 75 => 126 | 127 => 142 | 164 => 161 | 46 => 140 | 119 => 178 | 139 => 181 | 138 => 180 | 146 => 184 | 51 => 170 | 80 => 129 | n => n, fun | 1 => 1 | 3 => 2 | 4 => 3 | n => n⟩
theorem Tryd.lays155 : Go.Proofs.Lays.n155 Tryd.prog Tryd.lays155_ren := {
  mixed := by kernel_rfl
  f138 := Tryd.func124.trans (congrArg some (by kernel_rfl))
  f143 := Tryd.func125.trans (congrArg some (by kernel_rfl))
  f154 := Tryd.func105.trans (congrArg some (by kernel_rfl))
  f155 := Tryd.func88.trans (congrArg some (by kernel_rfl))
  f165 := Tryd.func84.trans (congrArg some (by kernel_rfl))
  f166 := Tryd.func85.trans (congrArg some (by kernel_rfl))
  f169 := Tryd.func86.trans (congrArg some (by kernel_rfl))
  f195 := Tryd.func138.trans (congrArg some (by kernel_rfl))
  f197 := Tryd.func126.trans (congrArg some (by kernel_rfl))
  f217 := Tryd.func148.trans (congrArg some (by kernel_rfl))
  f218 := Tryd.func139.trans (congrArg some (by kernel_rfl))
  f219 := Tryd.func140.trans (congrArg some (by kernel_rfl))
  f224 := Tryd.func150.trans (congrArg some (by kernel_rfl))
  f225 := Tryd.func149.trans (congrArg some (by kernel_rfl))
  f240 := Tryd.func102.trans (congrArg some (by kernel_rfl))
  f241 := Tryd.func103.trans (congrArg some (by kernel_rfl))
  f260 := Tryd.func141.trans (congrArg some (by kernel_rfl))
  f266 := Tryd.func152.trans (congrArg some (by kernel_rfl))
  f267 := Tryd.func151.trans (congrArg some (by kernel_rfl))
  f276 := Tryd.func122.trans (congrArg some (by kernel_rfl))
  f277 := Tryd.func123.trans (congrArg some (by kernel_rfl))
  f314 := Tryd.func153.trans (congrArg some (by kernel_rfl))
  t0 := Tryd.underlying0
  a0 := Tryd.isAgg0
  z0 := Tryd.sizeOf0
  v0 := Tryd.zeroValue0
  t3 := Tryd.underlying3
  a3 := Tryd.isAgg3
  z3 := Tryd.sizeOf3
  v3 := Tryd.zeroValue3
  t4 := Tryd.underlying4
  a4 := Tryd.isAgg4
  z4 := Tryd.sizeOf4
  v4 := Tryd.zeroValue4
  t5 := Tryd.underlying5
  a5 := Tryd.isAgg5
  z5 := Tryd.sizeOf5
  v5 := Tryd.zeroValue5
  t9 := Tryd.underlying9
  a9 := Tryd.isAgg9
  z9 := Tryd.sizeOf9
  v9 := Tryd.zeroValue9
  t20 := Tryd.underlying20
  a20 := Tryd.isAgg20
  z20 := Tryd.sizeOf20
  v20 := Tryd.zeroValue20
  t21 := Tryd.underlying21
  a21 := Tryd.isAgg21
  z21 := Tryd.sizeOf21
  v21 := Tryd.zeroValue21
  t37 := Tryd.underlying122
  a37 := Tryd.isAgg122
  z37 := Tryd.sizeOf122
  v37 := Tryd.zeroValue122
  t46 := Tryd.underlying140
  a46 := Tryd.isAgg140
  z46 := Tryd.sizeOf140
  v46 := Tryd.zeroValue140
  t51 := Tryd.underlying170
  a51 := Tryd.isAgg170
  z51 := Tryd.sizeOf170
  v51 := Tryd.zeroValue170
  t70 := Tryd.underlying121
  a70 := Tryd.isAgg121
  z70 := Tryd.sizeOf121
  v70 := Tryd.zeroValue121
  t72 := Tryd.underlying124
  a72 := Tryd.isAgg124
  z72 := Tryd.sizeOf124
  v72 := Tryd.zeroValue124
  t75 := Tryd.underlying126
  a75 := Tryd.isAgg126
  z75 := Tryd.sizeOf126
  v75 := Tryd.zeroValue126
  t76 := Tryd.underlying127
  a76 := Tryd.isAgg127
  z76 := Tryd.sizeOf127
  v76 := Tryd.zeroValue127
  t105 := Tryd.underlying164
  a105 := Tryd.isAgg164
  z105 := Tryd.sizeOf164
  v105 := Tryd.zeroValue164
  t119 := Tryd.underlying178
  a119 := Tryd.isAgg178
  z119 := Tryd.sizeOf178
  t127 := Tryd.underlying142
  a127 := Tryd.isAgg142
  z127 := Tryd.sizeOf142
  v127 := Tryd.zeroValue142
  t138 := Tryd.underlying180
  a138 := Tryd.isAgg180
  z138 := Tryd.sizeOf180
  v138 := Tryd.zeroValue180
  t139 := Tryd.underlying181
  a139 := Tryd.isAgg181
  z139 := Tryd.sizeOf181
  v139 := Tryd.zeroValue181
  t146 := Tryd.underlying184
  a146 := Tryd.isAgg184
  z146 := Tryd.sizeOf184
  v146 := Tryd.zeroValue184
  t164 := Tryd.underlying161
  a164 := Tryd.isAgg161
  z164 := Tryd.sizeOf161
  v164 := Tryd.zeroValue161
  g1 := by kernel_rfl
  g3 := by kernel_rfl
  g4 := by kernel_rfl }
theorem Tryd.Builder_Extra_155 : Builder.Extra Tryd.prog Tryd.lays155_ren := {
  sizeBuilder := by kernel_rfl
  liesBuilder := by kernel_rfl
  t5 := Tryd.underlying5
  a5 := Tryd.isAgg5
  z5 := Tryd.sizeOf5
  v5 := Tryd.zeroValue5
  infoByte := by kernel_rfl
  cellsByte := by kernel_rfl
  sizeByte := by kernel_rfl
  neB5 := by decide }
open Go.RowKit Go.Lib in
theorem Tryd.strings_ReplaceAll (s old new : ByteArray) (m : Int) (w : World) (hs : s.size < 4294967281) (hm : w.cell? ⟨1, 0, none⟩ = some (.int .i64 m)) (h1 : 1 ≤ old.size) (hlen : s.size + Lib.countB s old * new.size ≤ 140737488355328) :
    Calls Tryd.prog 88 #[.string s, .string old, .string new] w fun e w' =>
      e = .returned (.string ⟨(Lib.replaceAll s.data.toList old.data.toList new.data.toList).toArray⟩) ∧ Below w.heap.size w w' := Any.strings_ReplaceAll Tryd.lays155 Tryd.Builder_Extra_155 s old new m w hs hm h1 hlen
def Tryd.lays264_ren : Go.Shelf.Ren := ⟨fun | 264 => 110 | n => n, fun | 53 => 146 | 46 => 140 | n => n, fun | n => n⟩
theorem Tryd.lays264 : Go.Proofs.Lays.n264 Tryd.prog Tryd.lays264_ren := {
  mixed := by kernel_rfl
  f264 := Tryd.func110.trans (congrArg some (by kernel_rfl))
  t46 := Tryd.underlying140
  a46 := Tryd.isAgg140
  z46 := Tryd.sizeOf140
  v46 := Tryd.zeroValue140
  t53 := Tryd.underlying146
  a53 := Tryd.isAgg146
  z53 := Tryd.sizeOf146
  v53 := Tryd.zeroValue146 }
open Go.RowKit Go.Lib in
theorem Tryd.bits_Mul64 (x y : Nat) (hx : x < 18446744073709551616) (hy : y < 18446744073709551616) (w : World) :
    Calls Tryd.prog 110 #[.int .u64 x, .int .u64 y] w fun e w' => e = .returned (.tuple #[.int .u64 ((x * y / 18446744073709551616 : Nat) : Int), .int .u64 ((x * y % 18446744073709551616 : Nat) : Int)]) ∧ w' = w := Any.bits_Mul64 Tryd.lays264 x y hx hy w
end Go.Proofs

set_option linter.unusedVariables false
namespace Go.Proofs.YthmljoalohpafaaDoor
open Go Go.Pu

def itoaB (n : Int) : ByteArray := ⟨(Lib.itoa n).toArray⟩
def replB (s o n : ByteArray) : ByteArray := ⟨(Lib.replaceAll s.data.toList o.data.toList n.data.toList).toArray⟩
def joinB (es : List (List PV)) (sep : ByteArray) : ByteArray := ⟨(Lib.join (es.map fun e => (cS e 0).data.toList) sep.data.toList).toArray⟩
def mulHi (x y : Int) : Int := x * y / 18446744073709551616
def mulLo (x y : Int) : Int := x * y % 18446744073709551616
def inU64 (x : Int) : Bool := decide (0 ≤ x ∧ x < 18446744073709551616)
def inI64 (x : Int) : Bool := decide (-9223372036854775808 ≤ x ∧ x ≤ 9223372036854775807)
def replOk (s o n : ByteArray) : Bool := decide (s.size < 4294967281 ∧ 1 ≤ o.size ∧ s.size + Lib.countB s o * n.size ≤ 140737488355328)
def joinOk (es : List (List PV)) (sep : ByteArray) : Bool := decide (es.length ≤ 140737488355328 ∧ (Lib.join (es.map fun e => (cS e 0).data.toList) sep.data.toList).length ≤ 140737488355328)

def gItoa : List PV → List Blk → Tr := fun xs hc => match xs, hc with
  | [.int .i64 n], [] => .test (inI64 n) (.ret (.str (itoaB n)) []) .fail
  | _, _ => .fail
def gMul64 : List PV → List Blk → Tr := fun xs hc => match xs, hc with
  | [.int .u64 x, .int .u64 y], [] => .test (inU64 x && inU64 y) (.ret (.tuple [.int .u64 (mulHi x y), .int .u64 (mulLo x y)]) []) .fail
  | _, _ => .fail
def gRepl : List PV → List Blk → Tr := fun xs hc => match xs, hc with
  | [.str s, .str o, .str n], [] => .test (replOk s o n) (.ret (.str (replB s o n)) []) .fail
  | _, _ => .fail
def gJoin : List PV → List Blk → Tr := fun xs hc => match xs, hc with
  | [.lst t es, .str sep], [] => if t = 9 then .test (joinOk es sep) (.ret (.str (joinB es sep)) []) .fail else .fail
  | [.nils, .str sep], [] => .ret (.str ⟨#[]⟩) []
  | _, _ => .fail

noncomputable abbrev XD : Ext := extT [(61, gItoa), (110, gMul64), (88, gRepl), (62, gJoin)] XB

end Go.Proofs.YthmljoalohpafaaDoor

set_option linter.unusedVariables false
namespace Go.Proofs.YthmljoalohpafaaDoor
open Go Go.Pu Go.RowKit

theorem tabPow {E : Env} (hI : Inv Tryd.prog E) : Lib.TabIs Tryd.prog E.w "internal/strconv.uint64pow10" .u64 Lib.pow10Tab := by
  obtain ⟨_, c, T, fz, h2, h3⟩ := hI.tab _ (List.mem_cons_self ..)
  have hg : Tryd.prog.globalNamed "internal/strconv.uint64pow10" = some 0 := by kernel_rfl
  unfold Lib.TabIs World.var?
  rw [hg]
  simp only [Option.bind_some]
  rw [h2]
  simp only
  rw [h3]

theorem tabMax {E : Env} (hI : Inv Tryd.prog E) : ∃ m, E.w.cell? ⟨1, 0, none⟩ = some (.int .i64 m) := by
  obtain ⟨_, c, T, fz, h2, m, h3⟩ := hI.tab _ (List.mem_cons_of_mem _ (List.mem_cons_self ..))
  refine ⟨m, ?_⟩
  unfold World.cell?
  simp only [h2, Option.isSome_none, Bool.false_eq_true, if_false, h3]

theorem drewN_grow (w : World) (k : Nat) (os : Array Obj) : Grow w (Sort.grow (w.drewN k) os) := by
  have h : (w.drewN k).heap = w.heap ∧ (w.drewN k).os = w.os ∧ (w.drewN k).tape = w.tape ∧ (w.drewN k).output = w.output := by
    induction k generalizing w with
    | zero => exact ⟨rfl, rfl, rfl, rfl⟩
    | succ k ih => exact ih w.drew
  obtain ⟨h1, h2, h3, h4⟩ := h
  refine ⟨by simp [Sort.grow, h1], by simp [Sort.grow, h2], by simp [Sort.grow, h3], by simp [Sort.grow, h4], fun k hk => ?_⟩
  simp [Sort.grow, h1, Array.getElem?_append, hk]

set_option maxRecDepth 100000 in
theorem eItoa : EOK Tryd.prog 61 gItoa := eok_rows fun xs hc r hg => by
  unfold gItoa at hg
  split at hg
  · rename_i n
    obtain ⟨hb, rfl⟩ := val_test hg
    have hb := of_decide_eq_true hb
    refine rowLib ⟨_, Tryd.func61, by kernel_rfl⟩ fun E vs hE hI hL => ?_
    obtain ⟨v, vs', rfl, h1, h2⟩ := repL_0 hL
    obtain rfl := repL_nil h2
    obtain rfl := h1.int_inv
    refine (Tryd.strconv_Itoa n hb.1 hb.2 E.w (tabPow hI)).mono ?_
    rintro e w' ⟨rfl, k, os, rfl⟩
    exact ⟨_, rfl, drewN_grow _ _ _, fun E' => .str _⟩
  · cases hg

set_option maxRecDepth 100000 in
theorem eMul64 : EOK Tryd.prog 110 gMul64 := eok_rows fun xs hc r hg => by
  unfold gMul64 at hg
  split at hg
  · rename_i x y
    obtain ⟨hb, rfl⟩ := val_test hg
    rw [Bool.and_eq_true] at hb
    have hx := of_decide_eq_true hb.1
    have hy := of_decide_eq_true hb.2
    refine rowLib ⟨_, Tryd.func110, by kernel_rfl⟩ fun E vs hE hI hL => ?_
    obtain ⟨v, vs', rfl, h1, h2⟩ := repL_0 hL
    obtain ⟨v', vs'', rfl, h3, h4⟩ := repL_0 h2
    obtain rfl := repL_nil h4
    obtain rfl := h1.int_inv
    obtain rfl := h3.int_inv
    obtain ⟨x', rfl⟩ : ∃ x' : Nat, x = x' := ⟨x.toNat, by omega⟩
    obtain ⟨y', rfl⟩ : ∃ y' : Nat, y = y' := ⟨y.toNat, by omega⟩
    refine (Tryd.bits_Mul64 x' y' (by omega) (by omega) E.w).mono ?_
    rintro e w' ⟨rfl, rfl⟩
    refine ⟨_, rfl, Grow.refl _, fun E' => .tuple _ _ rfl fun i hi => ?_⟩
    have : i = 0 ∨ i = 1 := by simp at hi; omega
    rcases this with rfl | rfl
    · have e1 : mulHi x' y' = ((x' * y' / 18446744073709551616 : Nat) : Int) := by simp [mulHi]
      simp only [e1]; exact .int _ _
    · have e1 : mulLo x' y' = ((x' * y' % 18446744073709551616 : Nat) : Int) := by simp [mulLo]
      simp only [e1]; exact .int _ _
  · cases hg

set_option maxRecDepth 100000 in
theorem eRepl : EOK Tryd.prog 88 gRepl := eok_rows fun xs hc r hg => by
  unfold gRepl at hg
  split at hg
  · rename_i s o n
    obtain ⟨hb, rfl⟩ := val_test hg
    have hb := of_decide_eq_true hb
    refine rowLib ⟨_, Tryd.func88, by kernel_rfl⟩ fun E vs hE hI hL => ?_
    obtain ⟨v, vs', rfl, h1, h2⟩ := repL_0 hL
    obtain ⟨v', vs'', rfl, h3, h4⟩ := repL_0 h2
    obtain ⟨v2, vs2, rfl, h5, h6⟩ := repL_0 h4
    obtain rfl := repL_nil h6
    obtain rfl := h1.str_inv
    obtain rfl := h3.str_inv
    obtain rfl := h5.str_inv
    obtain ⟨m, hm⟩ := tabMax hI
    refine (Tryd.strings_ReplaceAll s o n m E.w hb.1 hm hb.2.1 hb.2.2).mono ?_
    rintro e w' ⟨rfl, hw⟩
    exact ⟨_, rfl, grow_below hw, fun E' => .str _⟩
  · cases hg

theorem strs_of {es : List (List PV)} (h : ∀ i, i < es.length → cellsOK [.str] (es.getD i []) = true) : ∃ xs : List ByteArray, es = xs.map fun s => [.str s] := by
  induction es with
  | nil => exact ⟨[], rfl⟩
  | cons e es ih =>
    obtain ⟨xs, rfl⟩ := ih fun i hi => by simpa using h (i + 1) (by simpa using hi)
    have h0 := h 0 (by simp)
    match e, h0 with
    | [.str s], _ => exact ⟨s :: xs, rfl⟩

set_option maxRecDepth 100000 in
theorem eJoin : EOK Tryd.prog 62 gJoin := eok_rows fun xs hc r hg => by
  unfold gJoin at hg
  split at hg
  · rename_i t es sep
    split at hg
    · rename_i et
      subst et
      obtain ⟨hb, rfl⟩ := val_test hg
      have hb := of_decide_eq_true hb
      refine rowLib ⟨_, Tryd.func62, by kernel_rfl⟩ fun E vs hE hI hL => ?_
      obtain ⟨v, vs', rfl, h1, h2⟩ := repL_0 hL
      obtain ⟨v', vs'', rfl, h3, h4⟩ := repL_0 h2
      obtain rfl := repL_nil h4
      obtain rfl := h3.str_inv
      have e0 : joinB [] sep = ⟨#[]⟩ := rfl
      have hk1 : kds Tryd.prog 9 = [.str] := by kernel_rfl
      have hs1 : elSize Tryd.prog 9 = some 1 := by kernel_rfl
      generalize hes : es = es0 at h1
      cases h1 with
      | lst0 _ A cap hA =>
        rw [e0]
        refine (Tryd.strings_Join_none A cap sep E.w).mono ?_
        rintro e w' ⟨rfl, rfl⟩
        exact ⟨_, rfl, Grow.refl _, fun E' => .str _⟩
      | lst _ _ blk o cap sz c T fz hs hw him hcap hlen hk hr =>
        subst hes
        rw [hk1] at hk
        obtain ⟨ss, rfl⟩ := strs_of hk
        rw [hs1] at hs
        obtain rfl := Option.some.inj hs
        have em : ((ss.map fun s => [PV.str s]).map fun e => (cS e 0).data.toList) = ss.map (·.data.toList) := by
          rw [List.map_map]; rfl
        unfold joinB at *
        rw [em] at hb ⊢
        rw [List.length_map] at hb hcap hlen ⊢
        refine (Tryd.strings_Join blk o cap ss sep E.w (fun j x hj => ?_) (heap_lt hw) hb.1 hcap hb.2).mono ?_
        · have hjl : j < ss.length := by
            rcases Nat.lt_or_ge j ss.length with h | h
            · exact h
            · rw [List.getElem?_eq_none h] at hj; cases hj
          have := hr j 0 (by simpa using hjl) (by omega)
          simp only [List.getD, List.getElem?_map, hj, Option.map_some, Option.getD_some, List.getElem?_cons_zero] at this
          have h9 := this.str_inv
          simp only [Nat.mul_one, Nat.add_zero] at h9
          have hlt : o + j < c.size := by omega
          rw [Array.getD, dif_pos hlt] at h9
          unfold World.cell?
          simp only [hw, Option.isSome_none, Bool.false_eq_true, if_false]
          rw [Array.getElem?_eq_getElem hlt]
          exact congrArg some h9
        · rintro e w' ⟨rfl, hw'⟩
          exact ⟨_, rfl, grow_below hw', fun E' => .str _⟩
    · cases hg
  · rename_i sep
    cases hg
    refine rowLib ⟨_, Tryd.func62, by kernel_rfl⟩ fun E vs hE hI hL => ?_
    obtain ⟨v, vs', rfl, h1, h2⟩ := repL_0 hL
    obtain ⟨v', vs'', rfl, h3, h4⟩ := repL_0 h2
    obtain rfl := repL_nil h4
    obtain rfl := h3.str_inv
    cases h1 with
    | nils =>
      refine (Tryd.strings_Join_none none 0 sep E.w).mono ?_
      rintro e w' ⟨rfl, rfl⟩
      exact ⟨_, rfl, Grow.refl _, fun E' => .str _⟩
  · cases hg

theorem xD : XOK Tryd.prog XD := xokT xB (List.forall_mem_cons.2 ⟨eItoa, List.forall_mem_cons.2 ⟨eMul64, List.forall_mem_cons.2 ⟨eRepl, List.forall_mem_cons.2 ⟨eJoin, fun _ h => nomatch h⟩⟩⟩⟩)

end Go.Proofs.YthmljoalohpafaaDoor

set_option linter.unusedVariables false
namespace Go.Proofs.YthmljoalohpafaaDoor
open Go Go.Pu Go.RowKit

def seatLaid : List (String × DataW Unit) := [("math/bits.deBruijn32tab", Rows.laid_math_bits_deBruijn32tab), ("math/bits.deBruijn64tab", Rows.laid_math_bits_deBruijn64tab), ("internal/strconv.uint64pow10", Rows.laid_internal_strconv_uint64pow10), ("unicode/utf8.acceptRanges", Rows.laid_unicode_utf8_acceptRanges), ("unicode/utf8.first", Rows.laid_unicode_utf8_first)]

theorem laidPlain (w : World) : laidMetH Tryd.prog seatLaid w = laidMet Tryd.prog seatLaid w := MakeChecks.laidMetH_plain _ _ _ (by kernel_rfl)

theorem laidWorld (os : Os) (args : Array Value) : laidMetH Tryd.prog seatLaid ((World.laidAll Tryd.prog os seatLaid).forCall (fun _ _ => 0) ⟨#[], args, []⟩).memory := by
  rw [laidPlain]; exact laidMet_laidAll _ (by kernel_rfl) (by kernel_rfl)

theorem cells_of_var {P : Program} {w : World} {n : String} {g : Nat} {cs : Array Value} (hg : P.globalNamed n = some g) (h : w.var? P n = some cs) : ∃ T fz, w.heap[g]? = some (.cells cs T fz) := by
  simp only [World.var?, hg, Option.bind_some] at h
  split at h
  · rename_i c T fz hw
    cases h
    exact ⟨T, fz, hw⟩
  · cases h

theorem cells_of_cell {w : World} {g : Nat} {v : Value} (h : w.cell? ⟨g, 0, none⟩ = some v) : ∃ c T fz, w.heap[g]? = some (.cells c T fz) ∧ c[0]? = some v := by
  unfold World.cell? at h
  split at h
  · rename_i c T fz hw
    exact ⟨c, T, fz, hw, by simpa using h⟩
  · cases h

set_option maxRecDepth 100000 in
theorem tabs_of (W : World) (h : laidMetH Tryd.prog seatLaid W) (hs : W.ShapedOpen Tryd.prog) : Tab W fun b => b < W.heap.size := by
  rw [laidPlain] at h
  intro x hx
  simp only [seatTabs, List.mem_cons, List.mem_nil_iff, or_false] at hx
  rcases hx with rfl | rfl
  · obtain ⟨g, t, cs, fuel, p, h1, h2, h3, h4⟩ := Lib.laidMet.reads h (n := "internal/strconv.uint64pow10") (d := Rows.laid_internal_strconv_uint64pow10) (by simp [seatLaid])
    obtain rfl := Option.some.inj ((show Tryd.prog.globalNamed "internal/strconv.uint64pow10" = some 0 by kernel_rfl).symm.trans h1)
    obtain rfl := Option.some.inj ((show (Tryd.prog.globals[0]?).map (·.type) = some 169 by kernel_rfl).symm.trans h2)
    obtain ⟨T, fz, hw⟩ := cells_of_var h1 h3
    have hd : (Rows.laid_internal_strconv_uint64pow10 : DataW Unit) = Lib.tabData .u64 Lib.pow10Tab := by rfl
    rw [hd] at h4
    have hc := Lib.cells_of_tab (t := 169) (e := 146) (n := 20) (by kernel_rfl) (by kernel_rfl) (by kernel_rfl) (by kernel_rfl) h4
    refine ⟨heap_lt hw, cs, T, fz, hw, ?_⟩
    show cs = _
    rw [← hc]
  · obtain ⟨m, hm⟩ := cell_of_shapedOpen_int (P := Tryd.prog) (g := 1) (t := 3) (zero := #[.int .i64 0]) (k := .i64) hs (of_decide_eq_true (by kernel_rfl)) (by kernel_rfl) rfl (by kernel_rfl) (by kernel_rfl) (by kernel_rfl)
    obtain ⟨c, T, fz, hw, h0⟩ := cells_of_cell hm
    exact ⟨heap_lt hw, c, T, fz, hw, m, h0⟩

end Go.Proofs.YthmljoalohpafaaDoor
