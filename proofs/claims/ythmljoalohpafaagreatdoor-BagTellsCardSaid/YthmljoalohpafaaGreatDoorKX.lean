/- Texts of this seat, one behind the other. -/
import Derived.Test.YthmljoalohpafaaGreatDoorTB
import Derived.Test.YthmljoalohpafaaGreatDoorRows
import Derived.Lib.Strings
import Derived.Lib.Slices
import Derived.Lib.Walk
import Derived.Lib.Bytealg
import Derived.KernelRfl
import Derived.Test.YthmljoalohpafaaGreatDoorTD
import Derived.Shelf.LaysM
import Derived.Shelf.Strconv.Itoa3
import Derived.Shelf.Strings.OnBuilder
import Derived.Shelf.Strings.Replace
import Derived.Shelf.Bits.Mul64
import Derived.Test.YthmljoalohpafaaGreatDoorProg
import Derived.Test.YthmljoalohpafaaGreatDoorTG
import Derived.Lib.ItoaNum
import Derived.Lib.Replace
import Derived.Lib.Join
import Derived.Shelf.Vars
import Derived.Lib.LaidU8
import Derived.Lib.LaidTab
import Derived.MakeChecks
import Derived.Lay
import Derived.LaidLaws
namespace Go.Proofs.YthmljoalohpafaaGreatDoor
open Go.Pu

set_option maxHeartbeats 1000000 in
set_option maxRecDepth 100000 in
theorem bytealg_CompareString (a b : ByteArray) (w : World) :
    Calls Tryz.prog 141 #[.string a, .string b] w fun e w' => e = .returned (.int .i64 (Lib.compareBytes a.data.toList b.data.toList)) ∧ w' = w := by
  go_enter Tryz.func141, Tryz.ntmps141
  go_wp2
  rw [run_callFunc_extern Tryz.func154 (by kernel_rfl) (by kernel_rfl) (by kernel_rfl) (e := Extern.BytealgCompare.compare) (by kernel_rfl), Lib.run_compareString]
  simp only [Result.andThen]
  rw [Oper.upon_value]
  go_wp2
  go_ret
  exact ⟨rfl, rfl⟩

set_option maxHeartbeats 1000000 in
theorem strings_Compare (a b : ByteArray) (w : World) :
    Calls Tryz.prog 125 #[.string a, .string b] w fun e w' => e = .returned (.int .i64 (Lib.compareBytes a.data.toList b.data.toList)) ∧ w' = w := by
  go_enter Tryz.func125, Tryz.ntmps125
  go_wp2_with (go_at_call 141; refine (bytealg_CompareString _ _ _).mono ?_; rintro e w' ⟨rfl, rfl⟩)
  go_ret
  exact ⟨rfl, rfl⟩

theorem mixed : Tryz.prog.follows .mixedOrders = true := by kernel_rfl

def namedB (P : Program) : Bool := P.funcs.toList.all fun fn => fn.body.isNone || fn.name != "runtime.NumGoroutine"

theorem named_of {P : Program} (h : namedB P = true) : Named P := by
  intro f fn hf hb hn
  have hm : fn ∈ P.funcs.toList := by
    have := Array.mem_of_getElem? hf
    simpa using this
  have := List.all_eq_true.1 h fn hm
  rw [Bool.or_eq_true] at this
  rcases this with h1 | h1
  · cases hh : fn.body <;> simp_all
  · rw [hn] at h1; simp at h1

set_option maxRecDepth 100000 in
theorem named : Named Tryz.prog := named_of (by kernel_rfl)

def X0 : Ext := fun f => if f = 125 then some fun | [.str a, .str b], [] => .ret (.int .i64 (Lib.compareBytes a.data.toList b.data.toList)) [] | _, _ => .fail else none

theorem x0 : XOK Tryz.prog X0 := by
  intro f g xs hc r hf hg
  unfold X0 at hf
  split at hf
  · rename_i hf31
    subst hf31
    cases hf
    refine ⟨⟨_, Tryz.func125, by kernel_rfl⟩, fun E vs hE hbk hI hL => ?_⟩
    dsimp only at hg
    split at hg
    · rename_i a b
      cases hg
      obtain ⟨hl, hr⟩ := hL
      match vs, hl, hr with
      | [u, v], _, hr =>
        have h0 := (hr 0 (by simp)).str_inv
        have h1 := (hr 1 (by simp)).str_inv
        simp at h0 h1
        subst h0
        subst h1
        refine (strings_Compare a b E.w).mono ?_
        rintro e w' ⟨rfl, rfl⟩
        exact ⟨_, E, rfl, rfl, hE, (Trans.refl E).toK (Nat.zero_le _), hI, .int _ _⟩
    · cases hg
  · cases hf

theorem rids : ridsOK Tryz.prog = true := by kernel_rfl
theorem own : ownKnob Tryz.prog.godebug = none := by kernel_rfl
theorem laidOut : laidOutB Tryz.prog = true := by kernel_rfl

end Go.Proofs.YthmljoalohpafaaGreatDoor

set_option linter.unusedVariables false
namespace Go.Proofs.YthmljoalohpafaaGreatDoor
open Go.Pu

def L0 : FuncId → Nat → Option (List Nat) := fun _ _ => none
def M0 : FuncId → Bool := fun _ => false

theorem cloneRow1 (e : List PV) (es : List (List PV)) : callK br Tryz.prog X0 M0 L0 noLS 10 57 [.lst 31 (e :: es)] [] (fun y => fixR Tryz.prog [] 0 y) =
    br (decide ((0 + (e :: es).length) * 32 ≤ 140737488355328)) (some (.all 0, [.arr 31 (e :: es) true])) none := by rw [← callF_eq]; kernel_rfl
theorem cloneRow2 : callK br Tryz.prog X0 M0 L0 noLS 10 57 [.nils] [] (fun y => fixR Tryz.prog [1000000 * (2 * 31 + 1)] 0 y) =
    some (.all 0, [.arr 31 [] true]) := by rw [← callF_eq]; kernel_rfl
theorem cloneRow3 : callK br Tryz.prog X0 M0 L0 noLS 10 57 [.new 31 [[]]] [] (fun y => fixR Tryz.prog [] 0 y) =
    some (.all 0, [.arr 31 [] true]) := by rw [← callF_eq]; kernel_rfl

theorem eCloneRow : EOK Tryz.prog 57 (gClone 31 32) :=
  eokClone (fun e es h => rowAt_of mixed named x0 (noLS_ok _ _ _ _) (fuel := 10) (plan := []) ((cloneRow1 e es).trans (br_pos (decide_eq_true h))))
    (rowAt_of mixed named x0 (noLS_ok _ _ _ _) (fuel := 10) (plan := [1000000 * (2 * 31 + 1)]) cloneRow2)
    (rowAt_of mixed named x0 (noLS_ok _ _ _ _) (fuel := 10) (plan := []) cloneRow3)

noncomputable abbrev XB : Ext := extT [(57, gClone 31 32)] X0
theorem xB : XOK Tryz.prog XB := xok1 x0 eCloneRow

end Go.Proofs.YthmljoalohpafaaGreatDoor

namespace Go.Proofs
open Go.Shelf
def Tryz.lays156_ren : Go.Shelf.Ren := ⟨fun | 156 => 54 | 165 => 88 | 166 => 89 | 169 => 90 | 240 => 112 | 241 => 113 | 276 => 132 | 277 => 133 | n => n, fun | 31 => 90 | 9 => 9 | 3 => 3 | 4 => 4 | 0 => 0 | 20 => 20 | 72 => 124 | 76 => 128 | 70 => 121 | 37 => 122 | 75 => 127 | 127 => 144 | 164 => 162 | 5 => 5 | 80 => 130 | n => n, fun | n => n⟩
theorem Tryz.lays156 : Go.Proofs.Lays.n156 Tryz.prog Tryz.lays156_ren := {
  mixed := by kernel_rfl
  f156 := Tryz.func54.trans (congrArg some (by kernel_rfl))
  f165 := Tryz.func88.trans (congrArg some (by kernel_rfl))
  f166 := Tryz.func89.trans (congrArg some (by kernel_rfl))
  f169 := Tryz.func90.trans (congrArg some (by kernel_rfl))
  f240 := Tryz.func112.trans (congrArg some (by kernel_rfl))
  f241 := Tryz.func113.trans (congrArg some (by kernel_rfl))
  f276 := Tryz.func132.trans (congrArg some (by kernel_rfl))
  f277 := Tryz.func133.trans (congrArg some (by kernel_rfl))
  t0 := Tryz.underlying0
  a0 := Tryz.isAgg0
  z0 := Tryz.sizeOf0
  v0 := Tryz.zeroValue0
  t3 := Tryz.underlying3
  a3 := Tryz.isAgg3
  z3 := Tryz.sizeOf3
  v3 := Tryz.zeroValue3
  t4 := Tryz.underlying4
  a4 := Tryz.isAgg4
  z4 := Tryz.sizeOf4
  v4 := Tryz.zeroValue4
  t9 := Tryz.underlying9
  a9 := Tryz.isAgg9
  z9 := Tryz.sizeOf9
  v9 := Tryz.zeroValue9
  t20 := Tryz.underlying20
  a20 := Tryz.isAgg20
  z20 := Tryz.sizeOf20
  v20 := Tryz.zeroValue20
  t31 := Tryz.underlying90
  a31 := Tryz.isAgg90
  z31 := Tryz.sizeOf90
  v31 := Tryz.zeroValue90
  t37 := Tryz.underlying122
  a37 := Tryz.isAgg122
  z37 := Tryz.sizeOf122
  v37 := Tryz.zeroValue122
  t70 := Tryz.underlying121
  a70 := Tryz.isAgg121
  z70 := Tryz.sizeOf121
  v70 := Tryz.zeroValue121
  t72 := Tryz.underlying124
  a72 := Tryz.isAgg124
  z72 := Tryz.sizeOf124
  v72 := Tryz.zeroValue124
  t75 := Tryz.underlying127
  a75 := Tryz.isAgg127
  z75 := Tryz.sizeOf127
  v75 := Tryz.zeroValue127
  t76 := Tryz.underlying128
  a76 := Tryz.isAgg128
  z76 := Tryz.sizeOf128
  v76 := Tryz.zeroValue128
  t127 := Tryz.underlying144
  a127 := Tryz.isAgg144
  z127 := Tryz.sizeOf144
  v127 := Tryz.zeroValue144
  t164 := Tryz.underlying162
  a164 := Tryz.isAgg162
  z164 := Tryz.sizeOf162
  v164 := Tryz.zeroValue162 }
theorem Tryz.Builder_Extra_156 : Builder.Extra Tryz.prog Tryz.lays156_ren := {
  sizeBuilder := by kernel_rfl
  liesBuilder := by kernel_rfl
  t5 := Tryz.underlying5
  a5 := Tryz.isAgg5
  z5 := Tryz.sizeOf5
  v5 := Tryz.zeroValue5
  infoByte := by kernel_rfl
  cellsByte := by kernel_rfl
  sizeByte := by kernel_rfl
  neB5 := by decide }
open Go.RowKit in
theorem Tryz.strings_Join_none (a : Option Addr) (c : Nat) (sep : ByteArray) (w : World) :
    Calls Tryz.prog 54 #[.slice a 0 c, .string sep] w fun e w' => e = .returned (.string ⟨#[]⟩) ∧ w' = w := Any.strings_Join_none Tryz.lays156 Tryz.Builder_Extra_156 a c sep w
open Go.RowKit in
theorem Tryz.strings_Join (bk o c : Nat) (xs : List ByteArray) (sep : ByteArray) (w : World) (hcells : ∀ (j : Nat) x, xs[j]? = some x → w.cell? ⟨bk, o + j, none⟩ = some (.string x)) (hbk : bk < w.heap.size) (hN : xs.length ≤ 140737488355328) (hcap : xs.length ≤ c) (hlen : (Lib.join (xs.map (·.data.toList)) sep.data.toList).length ≤ 140737488355328) :
    Calls Tryz.prog 54 #[.slice (some ⟨bk, o, none⟩) xs.length c, .string sep] w fun e w' => e = .returned (.string ⟨(Lib.join (xs.map (·.data.toList)) sep.data.toList).toArray⟩) ∧ Below w.heap.size w w' := Any.strings_Join Tryz.lays156 Tryz.Builder_Extra_156 bk o c xs sep w hcells hbk hN hcap hlen
def Tryz.laysM171_ren : Go.Shelf.Ren := ⟨fun | 171 => 53 | 243 => 87 | 246 => 111 | 283 => 128 | 284 => 129 | 285 => 130 | 286 => 131 | 129 => 144 | 317 => 143 | 318 => 145 | 319 => 146 | 320 => 147 | 337 => 156 | 338 => 157 | n => n, fun | 3 => 3 | 9 => 9 | 2 => 2 | 4 => 4 | 171 => 157 | 0 => 0 | 53 => 132 | 37 => 122 | 5 => 5 | 173 => 160 | 212 => 170 | 51 => 171 | 20 => 20 | 213 => 172 | 46 => 141 | 232 => 183 | 233 => 184 | n => n, fun | 17 => 0 | 18 => 4 | 19 => 5 | n => n⟩
theorem Tryz.laysM171 : Go.Proofs.LaysM.n171 Tryz.prog Tryz.laysM171_ren := {
  mixed := by kernel_rfl
  f129 := Tryz.func144.trans (congrArg some (by kernel_rfl))
  f171 := Tryz.func53.trans (congrArg some (by kernel_rfl))
  f243 := Tryz.func87.trans (congrArg some (by kernel_rfl))
  f246 := Tryz.func111.trans (congrArg some (by kernel_rfl))
  f283 := Tryz.func128.trans (congrArg some (by kernel_rfl))
  f284 := Tryz.func129.trans (congrArg some (by kernel_rfl))
  f285 := Tryz.func130.trans (congrArg some (by kernel_rfl))
  f286 := Tryz.func131.trans (congrArg some (by kernel_rfl))
  f317 := Tryz.func143.trans (congrArg some (by kernel_rfl))
  f318 := Tryz.func145.trans (congrArg some (by kernel_rfl))
  f319 := Tryz.func146.trans (congrArg some (by kernel_rfl))
  f320 := Tryz.func147.trans (congrArg some (by kernel_rfl))
  f337 := Tryz.func156.trans (congrArg some (by kernel_rfl))
  f338 := Tryz.func157.trans (congrArg some (by kernel_rfl))
  t0 := Tryz.underlying0
  a0 := Tryz.isAgg0
  z0 := Tryz.sizeOf0
  v0 := Tryz.zeroValue0
  t2 := Tryz.underlying2
  a2 := Tryz.isAgg2
  z2 := Tryz.sizeOf2
  v2 := Tryz.zeroValue2
  t3 := Tryz.underlying3
  a3 := Tryz.isAgg3
  z3 := Tryz.sizeOf3
  v3 := Tryz.zeroValue3
  t4 := Tryz.underlying4
  a4 := Tryz.isAgg4
  z4 := Tryz.sizeOf4
  v4 := Tryz.zeroValue4
  t5 := Tryz.underlying5
  a5 := Tryz.isAgg5
  z5 := Tryz.sizeOf5
  v5 := Tryz.zeroValue5
  t9 := Tryz.underlying9
  a9 := Tryz.isAgg9
  z9 := Tryz.sizeOf9
  v9 := Tryz.zeroValue9
  t20 := Tryz.underlying20
  a20 := Tryz.isAgg20
  z20 := Tryz.sizeOf20
  v20 := Tryz.zeroValue20
  t37 := Tryz.underlying122
  a37 := Tryz.isAgg122
  z37 := Tryz.sizeOf122
  v37 := Tryz.zeroValue122
  t46 := Tryz.underlying141
  a46 := Tryz.isAgg141
  z46 := Tryz.sizeOf141
  v46 := Tryz.zeroValue141
  t51 := Tryz.underlying171
  a51 := Tryz.isAgg171
  z51 := Tryz.sizeOf171
  v51 := Tryz.zeroValue171
  t53 := Tryz.underlying132
  a53 := Tryz.isAgg132
  z53 := Tryz.sizeOf132
  v53 := Tryz.zeroValue132
  t171 := Tryz.underlying157
  a171 := Tryz.isAgg157
  z171 := Tryz.sizeOf157
  v171 := Tryz.zeroValue157
  t173 := Tryz.underlying160
  a173 := Tryz.isAgg160
  z173 := Tryz.sizeOf160
  v173 := Tryz.zeroValue160
  t212 := Tryz.underlying170
  a212 := Tryz.isAgg170
  z212 := Tryz.sizeOf170
  v212 := Tryz.zeroValue170
  t213 := Tryz.underlying172
  a213 := Tryz.isAgg172
  z213 := Tryz.sizeOf172
  t232 := Tryz.underlying183
  a232 := Tryz.isAgg183
  z232 := Tryz.sizeOf183
  v232 := Tryz.zeroValue183
  t233 := Tryz.underlying184
  a233 := Tryz.isAgg184
  z233 := Tryz.sizeOf184
  v233 := Tryz.zeroValue184
  g17 := by kernel_rfl
  g18 := by kernel_rfl
  g19 := by kernel_rfl
  i0 := by kernel_rfl
  i2 := by kernel_rfl
  i3 := by kernel_rfl
  i4 := by kernel_rfl
  i5 := by kernel_rfl
  i9 := by kernel_rfl
  i20 := by kernel_rfl
  i37 := by kernel_rfl
  i46 := by kernel_rfl
  i51 := by kernel_rfl
  i53 := by kernel_rfl
  i171 := by kernel_rfl
  i173 := by kernel_rfl
  i212 := by kernel_rfl
  i232 := by kernel_rfl
  i233 := by kernel_rfl
  m17 := by kernel_rfl
  m18 := by kernel_rfl
  m19 := by kernel_rfl }
open Go.RowKit Go.Sort Go.Lib in
theorem Tryz.strconv_Itoa (n : Int) (h0 : -9223372036854775808 ≤ n) (h1 : n ≤ 9223372036854775807) (w : World) (htab : Lib.TabIs Tryz.prog w "internal/strconv.uint64pow10" .u64 Lib.pow10Tab) :
    Calls Tryz.prog 53 #[.int .i64 n] w fun e w' => e = .returned (.string ⟨(Lib.itoa n).toArray⟩) ∧ ∃ k os, w' = grow (w.drewN k) os := Any.strconv_Itoa Tryz.laysM171 n h0 h1 w htab
def Tryz.lays155_ren : Go.Shelf.Ren := ⟨fun | 155 => 96 | 154 => 115 | 138 => 134 | 165 => 88 | 143 => 135 | 166 => 89 | 197 => 136 | 169 => 90 | 195 => 148 | 218 => 149 | 240 => 112 | 241 => 113 | 219 => 150 | 260 => 151 | 276 => 132 | 277 => 133 | 217 => 158 | 225 => 159 | 224 => 160 | 267 => 161 | 266 => 162 | 314 => 163 | n => n, fun | 9 => 9 | 3 => 3 | 4 => 4 | 72 => 124 | 0 => 0 | 76 => 128 | 105 => 165 | 21 => 21 | 5 => 5 | 70 => 121 | 20 => 20 | 37 => 122 | 75 => 127 | 127 => 144 | 164 => 162 | 46 => 141 | 119 => 179 | 139 => 182 | 138 => 181 | 146 => 185 | 51 => 171 | 80 => 130 | n => n, fun | 1 => 1 | 3 => 2 | 4 => 3 | n => n⟩
theorem Tryz.lays155 : Go.Proofs.Lays.n155 Tryz.prog Tryz.lays155_ren := {
  mixed := by kernel_rfl
  f138 := Tryz.func134.trans (congrArg some (by kernel_rfl))
  f143 := Tryz.func135.trans (congrArg some (by kernel_rfl))
  f154 := Tryz.func115.trans (congrArg some (by kernel_rfl))
  f155 := Tryz.func96.trans (congrArg some (by kernel_rfl))
  f165 := Tryz.func88.trans (congrArg some (by kernel_rfl))
  f166 := Tryz.func89.trans (congrArg some (by kernel_rfl))
  f169 := Tryz.func90.trans (congrArg some (by kernel_rfl))
  f195 := Tryz.func148.trans (congrArg some (by kernel_rfl))
  f197 := Tryz.func136.trans (congrArg some (by kernel_rfl))
  f217 := Tryz.func158.trans (congrArg some (by kernel_rfl))
  f218 := Tryz.func149.trans (congrArg some (by kernel_rfl))
  f219 := Tryz.func150.trans (congrArg some (by kernel_rfl))
  f224 := Tryz.func160.trans (congrArg some (by kernel_rfl))
  f225 := Tryz.func159.trans (congrArg some (by kernel_rfl))
  f240 := Tryz.func112.trans (congrArg some (by kernel_rfl))
  f241 := Tryz.func113.trans (congrArg some (by kernel_rfl))
  f260 := Tryz.func151.trans (congrArg some (by kernel_rfl))
  f266 := Tryz.func162.trans (congrArg some (by kernel_rfl))
  f267 := Tryz.func161.trans (congrArg some (by kernel_rfl))
  f276 := Tryz.func132.trans (congrArg some (by kernel_rfl))
  f277 := Tryz.func133.trans (congrArg some (by kernel_rfl))
  f314 := Tryz.func163.trans (congrArg some (by kernel_rfl))
  t0 := Tryz.underlying0
  a0 := Tryz.isAgg0
  z0 := Tryz.sizeOf0
  v0 := Tryz.zeroValue0
  t3 := Tryz.underlying3
  a3 := Tryz.isAgg3
  z3 := Tryz.sizeOf3
  v3 := Tryz.zeroValue3
  t4 := Tryz.underlying4
  a4 := Tryz.isAgg4
  z4 := Tryz.sizeOf4
  v4 := Tryz.zeroValue4
  t5 := Tryz.underlying5
  a5 := Tryz.isAgg5
  z5 := Tryz.sizeOf5
  v5 := Tryz.zeroValue5
  t9 := Tryz.underlying9
  a9 := Tryz.isAgg9
  z9 := Tryz.sizeOf9
  v9 := Tryz.zeroValue9
  t20 := Tryz.underlying20
  a20 := Tryz.isAgg20
  z20 := Tryz.sizeOf20
  v20 := Tryz.zeroValue20
  t21 := Tryz.underlying21
  a21 := Tryz.isAgg21
  z21 := Tryz.sizeOf21
  v21 := Tryz.zeroValue21
  t37 := Tryz.underlying122
  a37 := Tryz.isAgg122
  z37 := Tryz.sizeOf122
  v37 := Tryz.zeroValue122
  t46 := Tryz.underlying141
  a46 := Tryz.isAgg141
  z46 := Tryz.sizeOf141
  v46 := Tryz.zeroValue141
  t51 := Tryz.underlying171
  a51 := Tryz.isAgg171
  z51 := Tryz.sizeOf171
  v51 := Tryz.zeroValue171
  t70 := Tryz.underlying121
  a70 := Tryz.isAgg121
  z70 := Tryz.sizeOf121
  v70 := Tryz.zeroValue121
  t72 := Tryz.underlying124
  a72 := Tryz.isAgg124
  z72 := Tryz.sizeOf124
  v72 := Tryz.zeroValue124
  t75 := Tryz.underlying127
  a75 := Tryz.isAgg127
  z75 := Tryz.sizeOf127
  v75 := Tryz.zeroValue127
  t76 := Tryz.underlying128
  a76 := Tryz.isAgg128
  z76 := Tryz.sizeOf128
  v76 := Tryz.zeroValue128
  t105 := Tryz.underlying165
  a105 := Tryz.isAgg165
  z105 := Tryz.sizeOf165
  v105 := Tryz.zeroValue165
  t119 := Tryz.underlying179
  a119 := Tryz.isAgg179
  z119 := Tryz.sizeOf179
  t127 := Tryz.underlying144
  a127 := Tryz.isAgg144
  z127 := Tryz.sizeOf144
  v127 := Tryz.zeroValue144
  t138 := Tryz.underlying181
  a138 := Tryz.isAgg181
  z138 := Tryz.sizeOf181
  v138 := Tryz.zeroValue181
  t139 := Tryz.underlying182
  a139 := Tryz.isAgg182
  z139 := Tryz.sizeOf182
  v139 := Tryz.zeroValue182
  t146 := Tryz.underlying185
  a146 := Tryz.isAgg185
  z146 := Tryz.sizeOf185
  v146 := Tryz.zeroValue185
  t164 := Tryz.underlying162
  a164 := Tryz.isAgg162
  z164 := Tryz.sizeOf162
  v164 := Tryz.zeroValue162
  g1 := by kernel_rfl
  g3 := by kernel_rfl
  g4 := by kernel_rfl }
theorem Tryz.Builder_Extra_155 : Builder.Extra Tryz.prog Tryz.lays155_ren := {
  sizeBuilder := by kernel_rfl
  liesBuilder := by kernel_rfl
  t5 := Tryz.underlying5
  a5 := Tryz.isAgg5
  z5 := Tryz.sizeOf5
  v5 := Tryz.zeroValue5
  infoByte := by kernel_rfl
  cellsByte := by kernel_rfl
  sizeByte := by kernel_rfl
  neB5 := by decide }
open Go.RowKit Go.Lib in
theorem Tryz.strings_ReplaceAll (s old new : ByteArray) (m : Int) (w : World) (hs : s.size < 4294967281) (hm : w.cell? ⟨1, 0, none⟩ = some (.int .i64 m)) (h1 : 1 ≤ old.size) (hlen : s.size + Lib.countB s old * new.size ≤ 140737488355328) :
    Calls Tryz.prog 96 #[.string s, .string old, .string new] w fun e w' =>
      e = .returned (.string ⟨(Lib.replaceAll s.data.toList old.data.toList new.data.toList).toArray⟩) ∧ Below w.heap.size w w' := Any.strings_ReplaceAll Tryz.lays155 Tryz.Builder_Extra_155 s old new m w hs hm h1 hlen
def Tryz.lays264_ren : Go.Shelf.Ren := ⟨fun | 264 => 120 | n => n, fun | 53 => 132 | 46 => 141 | n => n, fun | n => n⟩
theorem Tryz.lays264 : Go.Proofs.Lays.n264 Tryz.prog Tryz.lays264_ren := {
  mixed := by kernel_rfl
  f264 := Tryz.func120.trans (congrArg some (by kernel_rfl))
  t46 := Tryz.underlying141
  a46 := Tryz.isAgg141
  z46 := Tryz.sizeOf141
  v46 := Tryz.zeroValue141
  t53 := Tryz.underlying132
  a53 := Tryz.isAgg132
  z53 := Tryz.sizeOf132
  v53 := Tryz.zeroValue132 }
open Go.RowKit Go.Lib in
theorem Tryz.bits_Mul64 (x y : Nat) (hx : x < 18446744073709551616) (hy : y < 18446744073709551616) (w : World) :
    Calls Tryz.prog 120 #[.int .u64 x, .int .u64 y] w fun e w' => e = .returned (.tuple #[.int .u64 ((x * y / 18446744073709551616 : Nat) : Int), .int .u64 ((x * y % 18446744073709551616 : Nat) : Int)]) ∧ w' = w := Any.bits_Mul64 Tryz.lays264 x y hx hy w
end Go.Proofs

set_option linter.unusedVariables false
namespace Go.Proofs.YthmljoalohpafaaGreatDoor
open Go Go.Pu

def itoaB (n : Int) : ByteArray := ⟨(Lib.itoa n).toArray⟩
def replB (s o n : ByteArray) : ByteArray := ⟨(Lib.replaceAll s.data.toList o.data.toList n.data.toList).toArray⟩
def joinB (es : List (List PV)) (sep : ByteArray) : ByteArray := ⟨(Lib.join (es.map fun e => (cS e 0).data.toList) sep.data.toList).toArray⟩
def mulHi (x y : Int) : Int := x * y / 18446744073709551616
def mulLo (x y : Int) : Int := x * y % 18446744073709551616
def inU64 (x : Int) : Bool := decide (0 ≤ x ∧ x < 18446744073709551616)
def inI64 (x : Int) : Bool := decide (-9223372036854775808 ≤ x ∧ x ≤ 9223372036854775807)
def replOk (s o n : ByteArray) : Bool := decide (s.size < 4294967281 ∧ 1 ≤ o.size ∧ s.size + Lib.countB s o * n.size ≤ 140737488355328)
def joinOk (es : List (List PV)) (sep : ByteArray) : Bool := decide (es.length ≤ 140737488355328 ∧ (Lib.join (es.map fun e => (cS e 0).data.toList) sep.data.toList).length ≤ 140737488355328)

def gItoa : List PV → List Blk → Tr := fun xs hc => match xs, hc with
  | [.int .i64 n], [] => .test (inI64 n) (.ret (.str (itoaB n)) []) .fail
  | _, _ => .fail
def gMul64 : List PV → List Blk → Tr := fun xs hc => match xs, hc with
  | [.int .u64 x, .int .u64 y], [] => .test (inU64 x && inU64 y) (.ret (.tuple [.int .u64 (mulHi x y), .int .u64 (mulLo x y)]) []) .fail
  | _, _ => .fail
def gRepl : List PV → List Blk → Tr := fun xs hc => match xs, hc with
  | [.str s, .str o, .str n], [] => .test (replOk s o n) (.ret (.str (replB s o n)) []) .fail
  | _, _ => .fail
def gJoin : List PV → List Blk → Tr := fun xs hc => match xs, hc with
  | [.lst t es, .str sep], [] => if t = 9 then .test (joinOk es sep) (.ret (.str (joinB es sep)) []) .fail else .fail
  | [.nils, .str sep], [] => .ret (.str ⟨#[]⟩) []
  | _, _ => .fail

noncomputable abbrev XD : Ext := extT [(53, gItoa), (120, gMul64), (96, gRepl), (54, gJoin)] XB

end Go.Proofs.YthmljoalohpafaaGreatDoor

set_option linter.unusedVariables false
namespace Go.Proofs.YthmljoalohpafaaGreatDoor
open Go Go.Pu Go.RowKit

theorem tabPow {E : Env} (hI : Inv Tryz.prog E) : Lib.TabIs Tryz.prog E.w "internal/strconv.uint64pow10" .u64 Lib.pow10Tab := by
  obtain ⟨_, c, T, fz, h2, h3⟩ := hI.tab _ (List.mem_cons_self ..)
  have hg : Tryz.prog.globalNamed "internal/strconv.uint64pow10" = some 0 := by kernel_rfl
  unfold Lib.TabIs World.var?
  rw [hg]
  simp only [Option.bind_some]
  rw [h2]
  simp only
  rw [h3]

theorem tabMax {E : Env} (hI : Inv Tryz.prog E) : ∃ m, E.w.cell? ⟨1, 0, none⟩ = some (.int .i64 m) := by
  obtain ⟨_, c, T, fz, h2, m, h3⟩ := hI.tab _ (List.mem_cons_of_mem _ (List.mem_cons_self ..))
  refine ⟨m, ?_⟩
  unfold World.cell?
  simp only [h2, Option.isSome_none, Bool.false_eq_true, if_false, h3]

theorem drewN_grow (w : World) (k : Nat) (os : Array Obj) : Grow w (Sort.grow (w.drewN k) os) := by
  have h : (w.drewN k).heap = w.heap ∧ (w.drewN k).os = w.os ∧ (w.drewN k).tape = w.tape ∧ (w.drewN k).output = w.output := by
    induction k generalizing w with
    | zero => exact ⟨rfl, rfl, rfl, rfl⟩
    | succ k ih => exact ih w.drew
  obtain ⟨h1, h2, h3, h4⟩ := h
  refine ⟨by simp [Sort.grow, h1], by simp [Sort.grow, h2], by simp [Sort.grow, h3], by simp [Sort.grow, h4], fun k hk => ?_⟩
  simp [Sort.grow, h1, Array.getElem?_append, hk]

set_option maxRecDepth 100000 in
theorem eItoa : EOK Tryz.prog 53 gItoa := eok_rows fun xs hc r hg => by
  unfold gItoa at hg
  split at hg
  · rename_i n
    obtain ⟨hb, rfl⟩ := val_test hg
    have hb := of_decide_eq_true hb
    refine rowLib ⟨_, Tryz.func53, by kernel_rfl⟩ fun E vs hE hI hL => ?_
    obtain ⟨v, vs', rfl, h1, h2⟩ := repL_0 hL
    obtain rfl := repL_nil h2
    obtain rfl := h1.int_inv
    refine (Tryz.strconv_Itoa n hb.1 hb.2 E.w (tabPow hI)).mono ?_
    rintro e w' ⟨rfl, k, os, rfl⟩
    exact ⟨_, rfl, drewN_grow _ _ _, fun E' => .str _⟩
  · cases hg

set_option maxRecDepth 100000 in
theorem eMul64 : EOK Tryz.prog 120 gMul64 := eok_rows fun xs hc r hg => by
  unfold gMul64 at hg
  split at hg
  · rename_i x y
    obtain ⟨hb, rfl⟩ := val_test hg
    rw [Bool.and_eq_true] at hb
    have hx := of_decide_eq_true hb.1
    have hy := of_decide_eq_true hb.2
    refine rowLib ⟨_, Tryz.func120, by kernel_rfl⟩ fun E vs hE hI hL => ?_
    obtain ⟨v, vs', rfl, h1, h2⟩ := repL_0 hL
    obtain ⟨v', vs'', rfl, h3, h4⟩ := repL_0 h2
    obtain rfl := repL_nil h4
    obtain rfl := h1.int_inv
    obtain rfl := h3.int_inv
    obtain ⟨x', rfl⟩ : ∃ x' : Nat, x = x' := ⟨x.toNat, by omega⟩
    obtain ⟨y', rfl⟩ : ∃ y' : Nat, y = y' := ⟨y.toNat, by omega⟩
    refine (Tryz.bits_Mul64 x' y' (by omega) (by omega) E.w).mono ?_
    rintro e w' ⟨rfl, rfl⟩
    refine ⟨_, rfl, Grow.refl _, fun E' => .tuple _ _ rfl fun i hi => ?_⟩
    have : i = 0 ∨ i = 1 := by simp at hi; omega
    rcases this with rfl | rfl
    · have e1 : mulHi x' y' = ((x' * y' / 18446744073709551616 : Nat) : Int) := by simp [mulHi]
      simp only [e1]; exact .int _ _
    · have e1 : mulLo x' y' = ((x' * y' % 18446744073709551616 : Nat) : Int) := by simp [mulLo]
      simp only [e1]; exact .int _ _
  · cases hg

set_option maxRecDepth 100000 in
theorem eRepl : EOK Tryz.prog 96 gRepl := eok_rows fun xs hc r hg => by
  unfold gRepl at hg
  split at hg
  · rename_i s o n
    obtain ⟨hb, rfl⟩ := val_test hg
    have hb := of_decide_eq_true hb
    refine rowLib ⟨_, Tryz.func96, by kernel_rfl⟩ fun E vs hE hI hL => ?_
    obtain ⟨v, vs', rfl, h1, h2⟩ := repL_0 hL
    obtain ⟨v', vs'', rfl, h3, h4⟩ := repL_0 h2
    obtain ⟨v2, vs2, rfl, h5, h6⟩ := repL_0 h4
    obtain rfl := repL_nil h6
    obtain rfl := h1.str_inv
    obtain rfl := h3.str_inv
    obtain rfl := h5.str_inv
    obtain ⟨m, hm⟩ := tabMax hI
    refine (Tryz.strings_ReplaceAll s o n m E.w hb.1 hm hb.2.1 hb.2.2).mono ?_
    rintro e w' ⟨rfl, hw⟩
    exact ⟨_, rfl, grow_below hw, fun E' => .str _⟩
  · cases hg

theorem strs_of {es : List (List PV)} (h : ∀ i, i < es.length → cellsOK [.str] (es.getD i []) = true) : ∃ xs : List ByteArray, es = xs.map fun s => [.str s] := by
  induction es with
  | nil => exact ⟨[], rfl⟩
  | cons e es ih =>
    obtain ⟨xs, rfl⟩ := ih fun i hi => by simpa using h (i + 1) (by simpa using hi)
    have h0 := h 0 (by simp)
    match e, h0 with
    | [.str s], _ => exact ⟨s :: xs, rfl⟩

set_option maxRecDepth 100000 in
theorem eJoin : EOK Tryz.prog 54 gJoin := eok_rows fun xs hc r hg => by
  unfold gJoin at hg
  split at hg
  · rename_i t es sep
    split at hg
    · rename_i et
      subst et
      obtain ⟨hb, rfl⟩ := val_test hg
      have hb := of_decide_eq_true hb
      refine rowLib ⟨_, Tryz.func54, by kernel_rfl⟩ fun E vs hE hI hL => ?_
      obtain ⟨v, vs', rfl, h1, h2⟩ := repL_0 hL
      obtain ⟨v', vs'', rfl, h3, h4⟩ := repL_0 h2
      obtain rfl := repL_nil h4
      obtain rfl := h3.str_inv
      have e0 : joinB [] sep = ⟨#[]⟩ := rfl
      have hk1 : kds Tryz.prog 9 = [.str] := by kernel_rfl
      have hs1 : elSize Tryz.prog 9 = some 1 := by kernel_rfl
      generalize hes : es = es0 at h1
      cases h1 with
      | lst0 _ A cap hA =>
        rw [e0]
        refine (Tryz.strings_Join_none A cap sep E.w).mono ?_
        rintro e w' ⟨rfl, rfl⟩
        exact ⟨_, rfl, Grow.refl _, fun E' => .str _⟩
      | lst _ _ blk o cap sz c T fz hs hw him hcap hlen hk hr =>
        subst hes
        rw [hk1] at hk
        obtain ⟨ss, rfl⟩ := strs_of hk
        rw [hs1] at hs
        obtain rfl := Option.some.inj hs
        have em : ((ss.map fun s => [PV.str s]).map fun e => (cS e 0).data.toList) = ss.map (·.data.toList) := by
          rw [List.map_map]; rfl
        unfold joinB at *
        rw [em] at hb ⊢
        rw [List.length_map] at hb hcap hlen ⊢
        refine (Tryz.strings_Join blk o cap ss sep E.w (fun j x hj => ?_) (heap_lt hw) hb.1 hcap hb.2).mono ?_
        · have hjl : j < ss.length := by
            rcases Nat.lt_or_ge j ss.length with h | h
            · exact h
            · rw [List.getElem?_eq_none h] at hj; cases hj
          have := hr j 0 (by simpa using hjl) (by omega)
          simp only [List.getD, List.getElem?_map, hj, Option.map_some, Option.getD_some, List.getElem?_cons_zero] at this
          have h9 := this.str_inv
          simp only [Nat.mul_one, Nat.add_zero] at h9
          have hlt : o + j < c.size := by omega
          rw [Array.getD, dif_pos hlt] at h9
          unfold World.cell?
          simp only [hw, Option.isSome_none, Bool.false_eq_true, if_false]
          rw [Array.getElem?_eq_getElem hlt]
          exact congrArg some h9
        · rintro e w' ⟨rfl, hw'⟩
          exact ⟨_, rfl, grow_below hw', fun E' => .str _⟩
    · cases hg
  · rename_i sep
    cases hg
    refine rowLib ⟨_, Tryz.func54, by kernel_rfl⟩ fun E vs hE hI hL => ?_
    obtain ⟨v, vs', rfl, h1, h2⟩ := repL_0 hL
    obtain ⟨v', vs'', rfl, h3, h4⟩ := repL_0 h2
    obtain rfl := repL_nil h4
    obtain rfl := h3.str_inv
    cases h1 with
    | nils =>
      refine (Tryz.strings_Join_none none 0 sep E.w).mono ?_
      rintro e w' ⟨rfl, rfl⟩
      exact ⟨_, rfl, Grow.refl _, fun E' => .str _⟩
  · cases hg

theorem xD : XOK Tryz.prog XD := xokT xB (List.forall_mem_cons.2 ⟨eItoa, List.forall_mem_cons.2 ⟨eMul64, List.forall_mem_cons.2 ⟨eRepl, List.forall_mem_cons.2 ⟨eJoin, fun _ h => nomatch h⟩⟩⟩⟩)

end Go.Proofs.YthmljoalohpafaaGreatDoor

set_option linter.unusedVariables false
namespace Go.Proofs.YthmljoalohpafaaGreatDoor
open Go Go.Pu Go.RowKit

def seatLaid : List (String × DataW Unit) := [("math/bits.deBruijn32tab", Rows.laid_math_bits_deBruijn32tab), ("math/bits.deBruijn64tab", Rows.laid_math_bits_deBruijn64tab), ("internal/strconv.uint64pow10", Rows.laid_internal_strconv_uint64pow10), ("unicode/utf8.acceptRanges", Rows.laid_unicode_utf8_acceptRanges), ("unicode/utf8.first", Rows.laid_unicode_utf8_first)]

theorem laidPlain (w : World) : laidMetH Tryz.prog seatLaid w = laidMet Tryz.prog seatLaid w := MakeChecks.laidMetH_plain _ _ _ (by kernel_rfl)

theorem laidWorld (os : Os) (args : Array Value) : laidMetH Tryz.prog seatLaid ((World.laidAll Tryz.prog os seatLaid).forCall (fun _ _ => 0) ⟨#[], args, []⟩).memory := by
  rw [laidPlain]; exact laidMet_laidAll _ (by kernel_rfl) (by kernel_rfl)

theorem cells_of_var {P : Program} {w : World} {n : String} {g : Nat} {cs : Array Value} (hg : P.globalNamed n = some g) (h : w.var? P n = some cs) : ∃ T fz, w.heap[g]? = some (.cells cs T fz) := by
  simp only [World.var?, hg, Option.bind_some] at h
  split at h
  · rename_i c T fz hw
    cases h
    exact ⟨T, fz, hw⟩
  · cases h

theorem cells_of_cell {w : World} {g : Nat} {v : Value} (h : w.cell? ⟨g, 0, none⟩ = some v) : ∃ c T fz, w.heap[g]? = some (.cells c T fz) ∧ c[0]? = some v := by
  unfold World.cell? at h
  split at h
  · rename_i c T fz hw
    exact ⟨c, T, fz, hw, by simpa using h⟩
  · cases h

set_option maxRecDepth 100000 in
theorem tabs_of (W : World) (h : laidMetH Tryz.prog seatLaid W) (hs : W.ShapedOpen Tryz.prog) : Tab W fun b => b < W.heap.size := by
  rw [laidPlain] at h
  intro x hx
  simp only [seatTabs, List.mem_cons, List.mem_nil_iff, or_false] at hx
  rcases hx with rfl | rfl
  · obtain ⟨g, t, cs, fuel, p, h1, h2, h3, h4⟩ := Lib.laidMet.reads h (n := "internal/strconv.uint64pow10") (d := Rows.laid_internal_strconv_uint64pow10) (by simp [seatLaid])
    obtain rfl := Option.some.inj ((show Tryz.prog.globalNamed "internal/strconv.uint64pow10" = some 0 by kernel_rfl).symm.trans h1)
    obtain rfl := Option.some.inj ((show (Tryz.prog.globals[0]?).map (·.type) = some 170 by kernel_rfl).symm.trans h2)
    obtain ⟨T, fz, hw⟩ := cells_of_var h1 h3
    have hd : (Rows.laid_internal_strconv_uint64pow10 : DataW Unit) = Lib.tabData .u64 Lib.pow10Tab := by rfl
    rw [hd] at h4
    have hc := Lib.cells_of_tab (t := 170) (e := 132) (n := 20) (by kernel_rfl) (by kernel_rfl) (by kernel_rfl) (by kernel_rfl) h4
    refine ⟨heap_lt hw, cs, T, fz, hw, ?_⟩
    show cs = _
    rw [← hc]
  · obtain ⟨m, hm⟩ := cell_of_shapedOpen_int (P := Tryz.prog) (g := 1) (t := 3) (zero := #[.int .i64 0]) (k := .i64) hs (of_decide_eq_true (by kernel_rfl)) (by kernel_rfl) rfl (by kernel_rfl) (by kernel_rfl) (by kernel_rfl)
    obtain ⟨c, T, fz, hw, h0⟩ := cells_of_cell hm
    exact ⟨heap_lt hw, c, T, fz, hw, m, h0⟩

end Go.Proofs.YthmljoalohpafaaGreatDoor

set_option linter.unusedVariables false
namespace Go.Proofs.YthmljoalohpafaaGreatDoor
open Go Go.Pu

theorem cloneCnt1 (e : List PV) (es : List (List PV)) : callK br Tryz.prog X0 M0 L0 noLS 10 82 [.lst 49 (e :: es)] [] (fun y => fixR Tryz.prog [] 0 y) =
    br (decide ((0 + (e :: es).length) * 32 ≤ 140737488355328)) (some (.all 0, [.arr 49 (e :: es) true])) none := by rw [← callF_eq]; kernel_rfl
theorem cloneCnt2 : callK br Tryz.prog X0 M0 L0 noLS 10 82 [.nils] [] (fun y => fixR Tryz.prog [1000000 * (2 * 49 + 1)] 0 y) =
    some (.all 0, [.arr 49 [] true]) := by rw [← callF_eq]; kernel_rfl
theorem cloneCnt3 : callK br Tryz.prog X0 M0 L0 noLS 10 82 [.new 49 [[]]] [] (fun y => fixR Tryz.prog [] 0 y) =
    some (.all 0, [.arr 49 [] true]) := by rw [← callF_eq]; kernel_rfl

theorem eCloneCnt : EOK Tryz.prog 82 (gClone 49 32) :=
  eokClone (fun e es h => rowAt_of mixed named x0 (noLS_ok _ _ _ _) (fuel := 10) (plan := []) ((cloneCnt1 e es).trans (br_pos (decide_eq_true h))))
    (rowAt_of mixed named x0 (noLS_ok _ _ _ _) (fuel := 10) (plan := [1000000 * (2 * 49 + 1)]) cloneCnt2)
    (rowAt_of mixed named x0 (noLS_ok _ _ _ _) (fuel := 10) (plan := []) cloneCnt3)

noncomputable abbrev XI : Ext := extT [(82, gClone 49 32)] XD
theorem xI : XOK Tryz.prog XI := xok1 xD eCloneCnt

end Go.Proofs.YthmljoalohpafaaGreatDoor
