/- The Key program: what its functions tell, as equations of pure data: decoding; the plain law of what bytes are. Each theorem names its conditions. -/
import Derived.Test.YtnnogckknlgeiaaKeyEnc
section
/- The Key program: what is live at the loops of decoding; a reader's bytes. -/
set_option linter.unusedVariables false
namespace Go.Proofs.Ytnnogckknlgeiaa
open Go.Pu

def L3 : FuncId → Nat → Option (List Nat) := liveT [(28, 2, [0, 3]), (28, 1000002, [3]), (10, 3, [2, 3, 4, 5]), (10, 1000003, [5]), (10, 2000003, [2, 3]), (20, 15, [0, 1, 4, 7]), (11, 3, [0, 2, 3, 4, 5]), (11, 1000003, [4]), (11, 2000003, [2, 3])]

def rdr (l : List UInt8) (ok : Bool) : Blk := .box 38 [.str (bl l), .bool ok]

/-- a reader's next byte -/
def gByte : List PV → List Blk → Tr
  | [.ptr 0 0], [.box 38 [.str s, .bool ok]] =>
    .test (s.data.toList.isEmpty) (.ret (.int .u8 0) [.box 38 [.str (bl []), .bool false]])
      (.ret (.int .u8 ((s.data.toList.headD 0).toNat : Nat)) [.box 38 [.str (bl s.data.toList.tail), .bool ok]])
  | _, _ => .fail

end Go.Proofs.Ytnnogckknlgeiaa
end

section
/- Equations: what the machine prints. -/
set_option linter.unusedVariables false
namespace Go.Proofs.Ytnnogckknlgeiaa
open Go.Pu


set_option maxRecDepth 100000 in
theorem ev27 {R : Type} (n : Nat) (s : ByteArray) (ok : Bool) (k : PV × Heap → Option R) :
  callK br Try.prog X5 M0 L3 (fun _ _ _ => none) (n+12) 27 [.ptr 0 0] [.box 38 [.str s, .bool ok]] k =
  br (ByteArray.toList s == []) (k (PV.int IntKind.u8 (0 : Int), [Blk.box (38 : Nat) [PV.str s, PV.bool false]]))
  (br (decide ((0 : Int) ≤ (0 : Int) ∧ (0 : Int) < (↑(ByteArray.size s) : Int)))
    (br
      (decide
        ((0 : Int) ≤ (1 : Int) ∧
          (1 : Int) ≤ (↑(ByteArray.size s) : Int) ∧ (↑(ByteArray.size s) : Int) ≤ (↑(ByteArray.size s) : Int)))
      (k
        (PV.int IntKind.u8 (↑(UInt8.toNat (List.getD (Array.toList (ByteArray.data s)) (0 : Nat) (0 : UInt8))) : Int),
          [Blk.box (38 : Nat)
              [PV.str (ByteArray.extract s (1 : Nat) (Int.toNat (↑(ByteArray.size s) : Int))), PV.bool ok]]))
      none)
    none) := by
  rw [← callF_eq]; kernel_rfl

end Go.Proofs.Ytnnogckknlgeiaa
end

section
/- The Key program: a reader's byte, told; a reader's text. -/
set_option linter.unusedVariables false
namespace Go.Proofs.Ytnnogckknlgeiaa
open Go.Pu

theorem bl_data (s : ByteArray) : bl s.data.toList = s := by
  cases s with
  | mk d => cases d; rfl

theorem bl_inj {s t : ByteArray} (h : s.data.toList = t.data.toList) : s = t := by rw [← bl_data s, h, bl_data]

theorem extract_bl (s : ByteArray) (a b : Nat) : s.extract a b = bl ((s.data.toList.drop a).take (b - a)) := by
  apply bl_inj
  simp only [ByteArray.data_extract, Array.toList_extract]
  rw [List.extract_eq_take_drop]
  rfl

theorem tells27 : Tells Try.prog X5 M0 L3 noLS 27 gByte := by
  intro zs hc r hg
  unfold gByte at hg
  split at hg
  · rename_i s ok
    refine ⟨12, (ev27 0 s ok _).trans ?_⟩
    have hl : s.data.toList.length = s.size := by simp
    rw [ByteArray.toList_eq]
    cases h : s.data.toList with
    | nil =>
      rw [h] at hg
      have hg : some _ = some r := hg
      rw [← hg]
      have : s = bl [] := bl_inj h
      rw [this]; rfl
    | cons c t =>
      rw [h] at hg hl
      have hg : some _ = some r := hg
      rw [← hg]
      simp only [List.length_cons] at hl
      refine (if_neg (by simp)).trans ((if_pos (decide_eq_true (by omega))).trans ((if_pos (decide_eq_true (by omega))).trans ?_))
      rw [extract_bl, h]
      have : (((s.size : Nat) : Int).toNat - 1) = t.length := by omega
      rw [this]
      simp only [List.drop_succ_cons, List.drop_zero, List.take_length]
      rfl
  · cases hg

abbrev X6 : Ext := extT [(27, gByte)] X5

theorem x6 : XOK Try.prog X6 := by
  refine xokT x5 ?_
  simp only [List.forall_mem_cons]
  exact ⟨eok mixed named x5 (noLS_ok _ _ _ _) tells27, fun _ h => by cases h⟩

/-- what is read as a text: the text, what is left, and whether it was one -/
def txt : List UInt8 → List UInt8 × List UInt8 × Bool
  | [] => ([0], [], false)
  | [b] => if b = 0 then ([0], [], false) else ([b, 0], [], false)
  | b :: c :: r =>
    if b = 0 then (if c = 1 then ([], r, true) else if c = 255 then (0 :: (txt r).1, (txt r).2) else ([0], r, false))
    else (b :: (txt (c :: r)).1, (txt (c :: r)).2)

end Go.Proofs.Ytnnogckknlgeiaa
end

section
/- Equations: what the machine prints. -/
set_option linter.unusedVariables false
namespace Go.Proofs.Ytnnogckknlgeiaa
open Go.Pu


set_option maxRecDepth 100000 in
theorem rd28z {R : Type} (n : Nat) (s : ByteArray) (ok : Bool) (k : Ex → List PV → Heap → Option R) :
  runK br Try.prog (callK br Try.prog X6 M0 L3 (fun _ _ _ => none) (n+9)) M0 (fun _ => none) (n+9) 1 (L3 28) (bodyOf Try.prog 28 2) (pl 28 [(0, .ptr 0 0), (3, .nils)]) [.box 38 [.str s, .bool ok]] (fun e ts h => (cleanX 1 (L3 28) 2 e ts h).bind fun c => k e c.1 c.2) =
  br ok
  (br (List.isEmpty (Array.toList (ByteArray.data s)))
    (k Ex.normal (pl (28 : Nat) [((0 : Nat), PV.ptr (0 : Nat) (0 : Nat)), ((3 : Nat), PV.all (1 : Nat))])
      [Blk.box (38 : Nat) [PV.str (bl []), PV.bool false], Blk.arr (5 : Nat) [[PV.int IntKind.u8 (0 : Int)]] true])
    (br ((↑(UInt8.toNat (List.headD (Array.toList (ByteArray.data s)) (0 : UInt8))) : Int) == (0 : Int))
      (br (List.isEmpty (Array.toList (ByteArray.data (bl (List.tail (Array.toList (ByteArray.data s)))))))
        (k Ex.normal (pl (28 : Nat) [((0 : Nat), PV.ptr (0 : Nat) (0 : Nat)), ((3 : Nat), PV.all (1 : Nat))])
          [Blk.box (38 : Nat) [PV.str (bl []), PV.bool false],
            Blk.arr (5 : Nat)
              [[PV.int IntKind.u8 (↑(UInt8.toNat (List.headD (Array.toList (ByteArray.data s)) (0 : UInt8))) : Int)]]
              true])
        (br
          ((↑(UInt8.toNat
                  (List.headD (Array.toList (ByteArray.data (bl (List.tail (Array.toList (ByteArray.data s))))))
                    (0 : UInt8))) :
              Int) ==
            (1 : Int))
          (k (Ex.exit (0 : Nat)) (pl (28 : Nat) [((3 : Nat), PV.nils)])
            [Blk.box (38 : Nat)
                [PV.str
                    (bl (List.tail (Array.toList (ByteArray.data (bl (List.tail (Array.toList (ByteArray.data s)))))))),
                  PV.bool ok]])
          (br
            ((↑(UInt8.toNat
                    (List.headD (Array.toList (ByteArray.data (bl (List.tail (Array.toList (ByteArray.data s))))))
                      (0 : UInt8))) :
                Int) ==
              (255 : Int))
            (k Ex.normal (pl (28 : Nat) [((0 : Nat), PV.ptr (0 : Nat) (0 : Nat)), ((3 : Nat), PV.all (1 : Nat))])
              [Blk.box (38 : Nat)
                  [PV.str
                      (bl
                        (List.tail (Array.toList (ByteArray.data (bl (List.tail (Array.toList (ByteArray.data s)))))))),
                    PV.bool ok],
                Blk.arr (5 : Nat)
                  [[PV.int IntKind.u8
                        (↑(UInt8.toNat (List.headD (Array.toList (ByteArray.data s)) (0 : UInt8))) : Int)]]
                  true])
            (k Ex.normal (pl (28 : Nat) [((0 : Nat), PV.ptr (0 : Nat) (0 : Nat)), ((3 : Nat), PV.all (1 : Nat))])
              [Blk.box (38 : Nat)
                  [PV.str
                      (bl
                        (List.tail (Array.toList (ByteArray.data (bl (List.tail (Array.toList (ByteArray.data s)))))))),
                    PV.bool false],
                Blk.arr (5 : Nat)
                  [[PV.int IntKind.u8
                        (↑(UInt8.toNat (List.headD (Array.toList (ByteArray.data s)) (0 : UInt8))) : Int)]]
                  true]))))
      (k Ex.normal (pl (28 : Nat) [((0 : Nat), PV.ptr (0 : Nat) (0 : Nat)), ((3 : Nat), PV.all (1 : Nat))])
        [Blk.box (38 : Nat) [PV.str (bl (List.tail (Array.toList (ByteArray.data s)))), PV.bool ok],
          Blk.arr (5 : Nat)
            [[PV.int IntKind.u8 (↑(UInt8.toNat (List.headD (Array.toList (ByteArray.data s)) (0 : UInt8))) : Int)]]
            true])))
  (k (Ex.exit (0 : Nat)) (pl (28 : Nat) [((3 : Nat), PV.nils)]) [Blk.box (38 : Nat) [PV.str s, PV.bool ok]]) := by
  rw [← callF_eq, ← runF_eq]; kernel_rfl

set_option maxRecDepth 100000 in
theorem rd28 {R : Type} (n : Nat) (s : ByteArray) (ok : Bool) (es : List (List PV)) (k : Ex → List PV → Heap → Option R) :
  runK br Try.prog (callK br Try.prog X6 M0 L3 (fun _ _ _ => none) (n+9)) M0 (fun _ => none) (n+9) 1 (L3 28) (bodyOf Try.prog 28 2) (pl 28 [(0, .ptr 0 0), (3, .all 1)]) [.box 38 [.str s, .bool ok], .arr 5 es true] (fun e ts h => (cleanX 1 (L3 28) 2 e ts h).bind fun c => k e c.1 c.2) =
  br ok
  (br (List.isEmpty (Array.toList (ByteArray.data s)))
    (br (decide ((List.length es + (1 : Nat)) * (1 : Nat) ≤ (140737488355328 : Nat)))
      (k Ex.normal (pl (28 : Nat) [((0 : Nat), PV.ptr (0 : Nat) (0 : Nat)), ((3 : Nat), PV.all (1 : Nat))])
        [Blk.box (38 : Nat) [PV.str (bl []), PV.bool false],
          Blk.arr (5 : Nat) (es ++ [[PV.int IntKind.u8 (0 : Int)]]) true])
      none)
    (br ((↑(UInt8.toNat (List.headD (Array.toList (ByteArray.data s)) (0 : UInt8))) : Int) == (0 : Int))
      (br (List.isEmpty (Array.toList (ByteArray.data (bl (List.tail (Array.toList (ByteArray.data s)))))))
        (br (decide ((List.length es + (1 : Nat)) * (1 : Nat) ≤ (140737488355328 : Nat)))
          (k Ex.normal (pl (28 : Nat) [((0 : Nat), PV.ptr (0 : Nat) (0 : Nat)), ((3 : Nat), PV.all (1 : Nat))])
            [Blk.box (38 : Nat) [PV.str (bl []), PV.bool false],
              Blk.arr (5 : Nat)
                (es ++
                  [[PV.int IntKind.u8
                        (↑(UInt8.toNat (List.headD (Array.toList (ByteArray.data s)) (0 : UInt8))) : Int)]])
                true])
          none)
        (br
          ((↑(UInt8.toNat
                  (List.headD (Array.toList (ByteArray.data (bl (List.tail (Array.toList (ByteArray.data s))))))
                    (0 : UInt8))) :
              Int) ==
            (1 : Int))
          (k (Ex.exit (0 : Nat)) (pl (28 : Nat) [((3 : Nat), PV.all (1 : Nat))])
            [Blk.box (38 : Nat)
                [PV.str
                    (bl (List.tail (Array.toList (ByteArray.data (bl (List.tail (Array.toList (ByteArray.data s)))))))),
                  PV.bool ok],
              Blk.arr (5 : Nat) es true])
          (br
            ((↑(UInt8.toNat
                    (List.headD (Array.toList (ByteArray.data (bl (List.tail (Array.toList (ByteArray.data s))))))
                      (0 : UInt8))) :
                Int) ==
              (255 : Int))
            (br (decide ((List.length es + (1 : Nat)) * (1 : Nat) ≤ (140737488355328 : Nat)))
              (k Ex.normal (pl (28 : Nat) [((0 : Nat), PV.ptr (0 : Nat) (0 : Nat)), ((3 : Nat), PV.all (1 : Nat))])
                [Blk.box (38 : Nat)
                    [PV.str
                        (bl
                          (List.tail
                            (Array.toList (ByteArray.data (bl (List.tail (Array.toList (ByteArray.data s)))))))),
                      PV.bool ok],
                  Blk.arr (5 : Nat)
                    (es ++
                      [[PV.int IntKind.u8
                            (↑(UInt8.toNat (List.headD (Array.toList (ByteArray.data s)) (0 : UInt8))) : Int)]])
                    true])
              none)
            (br (decide ((List.length es + (1 : Nat)) * (1 : Nat) ≤ (140737488355328 : Nat)))
              (k Ex.normal (pl (28 : Nat) [((0 : Nat), PV.ptr (0 : Nat) (0 : Nat)), ((3 : Nat), PV.all (1 : Nat))])
                [Blk.box (38 : Nat)
                    [PV.str
                        (bl
                          (List.tail
                            (Array.toList (ByteArray.data (bl (List.tail (Array.toList (ByteArray.data s)))))))),
                      PV.bool false],
                  Blk.arr (5 : Nat)
                    (es ++
                      [[PV.int IntKind.u8
                            (↑(UInt8.toNat (List.headD (Array.toList (ByteArray.data s)) (0 : UInt8))) : Int)]])
                    true])
              none))))
      (br (decide ((List.length es + (1 : Nat)) * (1 : Nat) ≤ (140737488355328 : Nat)))
        (k Ex.normal (pl (28 : Nat) [((0 : Nat), PV.ptr (0 : Nat) (0 : Nat)), ((3 : Nat), PV.all (1 : Nat))])
          [Blk.box (38 : Nat) [PV.str (bl (List.tail (Array.toList (ByteArray.data s)))), PV.bool ok],
            Blk.arr (5 : Nat)
              (es ++
                [[PV.int IntKind.u8 (↑(UInt8.toNat (List.headD (Array.toList (ByteArray.data s)) (0 : UInt8))) : Int)]])
              true])
        none)))
  (k (Ex.exit (0 : Nat)) (pl (28 : Nat) [((3 : Nat), PV.all (1 : Nat))])
    [Blk.box (38 : Nat) [PV.str s, PV.bool ok], Blk.arr (5 : Nat) es true]) := by
  rw [← callF_eq, ← runF_eq]; kernel_rfl

end Go.Proofs.Ytnnogckknlgeiaa
end

section
/- The Key program: a reader's text, told. -/
set_option linter.unusedVariables false
set_option linter.unusedSimpArgs false
namespace Go.Proofs.Ytnnogckknlgeiaa
open Go.Pu

abbrev TR := List UInt8 × List UInt8 × Bool

def enc28 (σ : TR) : List PV × Heap :=
  if σ.2.1 = [] then (pl 28 [(0, .ptr 0 0), (3, .nils)], [rdr σ.1 σ.2.2]) else (pl 28 [(0, .ptr 0 0), (3, .all 1)], [rdr σ.1 σ.2.2, .arr 5 (bc σ.2.1) true])

def txtK (l : List UInt8) (ok : Bool) : List UInt8 × List UInt8 × Bool := if ok = true then txt l else ([], l, false)

def fin28 (q : List UInt8 × List UInt8 × Bool) : Out :=
  if q.1 = [] then (.exit 0, pl 28 [(3, .nils)], [rdr q.2.1 q.2.2]) else (.exit 0, pl 28 [(3, .all 1)], [rdr q.2.1 q.2.2, .arr 5 (bc q.1) true])

def out28 (σ : TR) : Out := fin28 (σ.2.1 ++ (txtK σ.1 σ.2.2).1, (txtK σ.1 σ.2.2).2)

def mu28 (σ : TR) : Nat := 2 * σ.1.length + (if σ.2.2 = true then 1 else 0)

theorem z_pos {b : UInt8} {c : Int} {n : UInt8} (hn : ((n.toNat : Nat) : Int) = c) (h : b = n) : (((b.toNat : Nat) : Int) == c) = true := by subst h; simpa using hn
theorem z_neg {b : UInt8} {c : Int} {n : UInt8} (hn : ((n.toNat : Nat) : Int) = c) (h : ¬ b = n) : ¬ (((b.toNat : Nat) : Int) == c) = true := by
  intro g
  have g1 : ((b.toNat : Nat) : Int) = c := by simpa using g
  exact h (UInt8.toNat_inj.1 (by omega))

theorem enc28_ne {l acc : List UInt8} {ok : Bool} (b : UInt8) : enc28 (l, acc ++ [b], ok) = (pl 28 [(0, .ptr 0 0), (3, .all 1)], [rdr l ok, .arr 5 (bc acc ++ [[PV.int .u8 (b.toNat : Nat)]]) true]) := by
  unfold enc28
  rw [if_neg (by simp), bc_append]
  rfl

/-- one round at a reader that has something, or nothing -/
def rnd28 (σ : TR) : Ex × List PV × Heap :=
  if σ.2.2 = false then
    (if σ.2.1 = [] then (.exit 0, pl 28 [(3, .nils)], [rdr σ.1 false]) else (.exit 0, pl 28 [(3, .all 1)], [rdr σ.1 false, .arr 5 (bc σ.2.1) true]))
  else match σ.1 with
    | [] => (.normal, enc28 ([], σ.2.1 ++ [0], false))
    | [b] => if b = 0 then (.normal, enc28 ([], σ.2.1 ++ [0], false)) else (.normal, enc28 ([], σ.2.1 ++ [b], true))
    | b :: c :: r =>
      if b = 0 then
        (if c = 1 then (if σ.2.1 = [] then (.exit 0, pl 28 [(3, .nils)], [rdr r true]) else (.exit 0, pl 28 [(3, .all 1)], [rdr r true, .arr 5 (bc σ.2.1) true]))
        else if c = 255 then (.normal, enc28 (r, σ.2.1 ++ [0], true)) else (.normal, enc28 (r, σ.2.1 ++ [0], false)))
      else (.normal, enc28 (c :: r, σ.2.1 ++ [b], true))

theorem round28 (σ : TR) (h : σ.2.1.length ≤ 1000000000000) : runK br Try.prog (callK br Try.prog X6 M0 L3 (fun _ _ _ => none) 9) M0 (fun _ => none) 9 1 (L3 28) (bodyOf Try.prog 28 2) (enc28 σ).1 (enc28 σ).2 (idc 1 (L3 28) 2) = some (rnd28 σ) := by
  obtain ⟨l, acc, ok⟩ := σ
  dsimp only at h
  have hd : decide ((bc acc).length + 1 ≤ 140737488355328) = true := decide_eq_true (by rw [bc_length]; omega)
  have hd : decide (((bc acc).length + 1) * 1 ≤ 140737488355328) = true := decide_eq_true (by rw [bc_length]; omega)
  by_cases ha : acc = []
  · subst ha
    simp only [rnd28, enc28_ne]
    simp only [enc28, if_true]
    refine (rd28z 0 (bl l) ok (fun e ts h => some (e, ts, h))).trans ?_
    cases ok with
    | false => rfl
    | true =>
      refine (if_pos rfl).trans ?_
      rw [if_neg (by decide)]
      match l with
      | [] => rfl
      | [b] =>
        refine (if_neg Bool.false_ne_true).trans ?_
        dsimp only
        by_cases hb : b = 0
        · rw [if_pos hb]; subst hb; exact (if_pos rfl).trans rfl
        · rw [if_neg hb]; exact (if_neg (z_neg (n := 0) rfl hb)).trans rfl
      | b :: c :: r =>
        refine (if_neg Bool.false_ne_true).trans ?_
        dsimp only
        by_cases hb : b = 0
        · rw [if_pos hb]; subst hb
          refine (if_pos rfl).trans ((if_neg Bool.false_ne_true).trans ?_)
          by_cases hc : c = 1
          · rw [if_pos hc]; subst hc; exact (if_pos rfl).trans rfl
          · rw [if_neg hc]
            refine (if_neg (z_neg (n := 1) rfl hc)).trans ?_
            by_cases hc2 : c = 255
            · rw [if_pos hc2]; subst hc2; exact (if_pos rfl).trans rfl
            · rw [if_neg hc2]; exact (if_neg (z_neg (n := 255) rfl hc2)).trans rfl
        · rw [if_neg hb]; exact (if_neg (z_neg (n := 0) rfl hb)).trans rfl
  · simp only [rnd28, enc28_ne]
    simp only [enc28, if_neg ha]
    refine (rd28 0 (bl l) ok (bc acc) (fun e ts h => some (e, ts, h))).trans ?_
    cases ok with
    | false => rfl
    | true =>
      refine (if_pos rfl).trans ?_
      rw [if_neg (by decide)]
      match l with
      | [] => exact (if_pos rfl).trans ((if_pos hd).trans rfl)
      | [b] =>
        refine (if_neg Bool.false_ne_true).trans ?_
        dsimp only
        by_cases hb : b = 0
        · rw [if_pos hb]; subst hb; exact (if_pos rfl).trans ((if_pos rfl).trans ((if_pos hd).trans rfl))
        · rw [if_neg hb]; exact (if_neg (z_neg (n := 0) rfl hb)).trans ((if_pos hd).trans rfl)
      | b :: c :: r =>
        refine (if_neg Bool.false_ne_true).trans ?_
        dsimp only
        by_cases hb : b = 0
        · rw [if_pos hb]; subst hb
          refine (if_pos rfl).trans ((if_neg Bool.false_ne_true).trans ?_)
          by_cases hc : c = 1
          · rw [if_pos hc]; subst hc; exact (if_pos rfl).trans rfl
          · rw [if_neg hc]
            refine (if_neg (z_neg (n := 1) rfl hc)).trans ?_
            by_cases hc2 : c = 255
            · rw [if_pos hc2]; subst hc2; exact (if_pos rfl).trans ((if_pos hd).trans rfl)
            · rw [if_neg hc2]; exact (if_neg (z_neg (n := 255) rfl hc2)).trans ((if_pos hd).trans rfl)
        · rw [if_neg hb]; exact (if_neg (z_neg (n := 0) rfl hb)).trans ((if_pos hd).trans rfl)

theorem txt_more {b c : UInt8} {r : List UInt8} : txt (b :: c :: r) = if b = 0 then (if c = 1 then ([], r, true) else if c = 255 then (0 :: (txt r).1, (txt r).2) else ([0], r, false)) else (b :: (txt (c :: r)).1, (txt (c :: r)).2) := by
  rw [txt]

def g28 {R : Type} (B : BT R) : Smy R := fun ts h k =>
  match h, ts.length, ts.getD 0 .top, ts.getD 3 .top with
  | [.box 38 [.str s, .bool true]], 28, .ptr 0 0, .nils =>
    B (decide (s.size ≤ 999999999999)) (B (decide ((txt s.data.toList).1 = [])) (k (.exit 0) (pl 28 [(3, .nils)]) [.box 38 [.str (bl (txt s.data.toList).2.1), .bool (txt s.data.toList).2.2]])
      (k (.exit 0) (pl 28 [(3, .all 1)]) [.box 38 [.str (bl (txt s.data.toList).2.1), .bool (txt s.data.toList).2.2], .arr 5 (bc (txt s.data.toList).1) true])) none
  | _, _, _, _ => none

theorem loop28 {R : Type} : LoopTells Try.prog X6 M0 L3 1 (L3 28) (bodyOf Try.prog 28 2) (g28 (R := R) br) := by
  have hrid : rid (bodyOf Try.prog 28 2) = 2 := by kernel_rfl
  refine loopTells_of (n := 9) (callK0 9) lsok_none (fun σ : TR => σ.2.1.length + σ.1.length ≤ 999999999999 + (if σ.2.2 = true then 0 else 1)) enc28 mu28 out28 ?_ ?_
  · intro ts h c k r hc hk
    rw [hrid] at hc
    unfold g28 at hk
    split at hk
    · rename_i s h0 h1 h2 h3
      obtain ⟨hl, hk2⟩ := br_test hk
      clear hk
      simp only [decide_eq_true_eq] at hl
      refine ⟨(s.data.toList, [], true), by simpa using hl, ?_, ?_⟩
      · refine Prod.ext (cleaned_pl hc [(0, .ptr 0 0), (3, .nils)] h1 rfl rfl rfl ?_) ?_
        · simp only [List.forall_mem_cons]
          exact ⟨h2, h3, fun _ h => by cases h⟩
        · rw [h0]
          simp only [enc28, rdr, if_true, bl_data]
      · simp only [out28, txtK, if_true, List.nil_append]
        unfold fin28
        by_cases he : (txt s.data.toList).1 = []
        · rw [if_pos he]
          rw [he] at hk2
          exact hk2
        · rw [if_neg he]
          refine Eq.trans ?_ hk2
          exact (if_neg (by simpa using he)).symm
    · cases hk
  · intro σ hi
    rw [hrid]
    obtain ⟨l, acc, ok⟩ := σ
    dsimp only at hi
    have hr := round28 (l, acc, ok) (by dsimp only; split at hi <;> omega)
    refine ⟨(rnd28 (l, acc, ok)).1, (rnd28 (l, acc, ok)).2, hr, ?_⟩
    cases ok with
    | false =>
      have e : rnd28 (l, acc, false) = fin28 (acc, l, false) := if_pos rfl
      refine .inr ⟨?_, ?_⟩
      · rw [e]; unfold fin28; split <;> simp
      · rw [e]
        show fin28 (acc ++ [], l, false) = _
        rw [List.append_nil]
    | true =>
      simp only [if_true, Nat.add_zero] at hi
      match l, hi with
      | [], hi =>
        exact .inl ⟨rfl, ([], acc ++ [0], false), by simp at hi ⊢; omega, rfl, by simp [mu28], by simp [out28, txtK, txt]⟩
      | [b], hi =>
        by_cases hb : b = 0
        · refine .inl ⟨by simp [rnd28, hb], ([], acc ++ [0], false), by simp at hi ⊢; omega, by simp [rnd28, hb], by simp [mu28], by simp [out28, txtK, txt, hb]⟩
        · refine .inl ⟨by simp [rnd28, hb], ([], acc ++ [b], true), by simp at hi ⊢; omega, by simp [rnd28, hb], by simp [mu28], by simp [out28, txtK, txt, hb]⟩
      | b :: c :: r, hi =>
        by_cases hb : b = 0
        · subst hb
          by_cases hc : c = 1
          · subst hc
            have e : rnd28 (0 :: 1 :: r, acc, true) = fin28 (acc, r, true) := rfl
            refine .inr ⟨?_, ?_⟩
            · rw [e]; unfold fin28; split <;> simp
            · rw [e]
              show fin28 (acc ++ (txt (0 :: 1 :: r)).1, (txt (0 :: 1 :: r)).2) = _
              rw [txt_more]
              simp
          · by_cases hc2 : c = 255
            · refine .inl ⟨by simp [rnd28, hc, hc2], (r, acc ++ [0], true), by simp at hi ⊢; omega, by simp [rnd28, hc, hc2], by simp [mu28]; omega, by simp [out28, txtK, txt_more, hc, hc2]⟩
            · refine .inl ⟨by simp [rnd28, hc, hc2], (r, acc ++ [0], false), by simp at hi ⊢; omega, by simp [rnd28, hc, hc2], by simp [mu28]; omega, by simp [out28, txtK, txt_more, hc, hc2]⟩
        · refine .inl ⟨by simp [rnd28, hb], (c :: r, acc ++ [b], true), by simp at hi ⊢; omega, by simp [rnd28, hb], by simp [mu28], by simp [out28, txtK, txt_more, hb]⟩

end Go.Proofs.Ytnnogckknlgeiaa
end

section
/- Equations: what the machine prints. -/
set_option linter.unusedVariables false
namespace Go.Proofs.Ytnnogckknlgeiaa
open Go.Pu

abbrev LS5 {R : Type} (B : BT R) : FuncId → Nat → Nat → Option (Smy R) := lsT [(28, 1, 2, g28 B)]


set_option maxRecDepth 100000 in
theorem rd10z {R : Type} (n : Nat) (s : ByteArray) (k : Ex → List PV → Heap → Option R) :
  runK br Try.prog (callK br Try.prog X6 M0 L3 (LS5 br) (n+24)) M0 (fun _ => none) (n+24) 0 (L3 10) (bodyOf Try.prog 10 3) (pl 32 [(2, .nils), (3, .bool false), (4, .ptr 0 0), (5, .nils)]) [.box 38 [.str s, .bool true]] (fun e ts h => (cleanX 0 (L3 10) 3 e ts h).bind fun c => k e c.1 c.2) =
  br (!ByteArray.toList s == [])
  (br (List.isEmpty (Array.toList (ByteArray.data s)))
    (k Ex.ret (pl 32 [(2, PV.nils), (3, PV.bool false)]) [])
    (br
      (IntKind.wrap IntKind.i64
          (IntKind.wrap IntKind.i64 (↑(UInt8.toNat (List.headD (Array.toList (ByteArray.data s)) (0 : UInt8))) : Int) -
            (1 : Int)) ==
        (1 : Int))
      (br (List.isEmpty (List.tail (Array.toList (ByteArray.data s))))
        (k Ex.ret (pl 32 [(2, PV.nils), (3, PV.bool false)]) [])
        (br
          (!mayV
              (IntKind.wrap IntKind.i64
                (IntKind.wrap IntKind.i64
                    (↑(UInt8.toNat (List.headD (Array.toList (ByteArray.data s)) (0 : UInt8))) : Int) -
                  (1 : Int)))
              (IntKind.wrap IntKind.i64
                (↑(UInt8.toNat (List.headD (List.tail (Array.toList (ByteArray.data s))) (0 : UInt8))) : Int))
              { data := #[] })
          (k Ex.ret (pl 32 [(2, PV.nils), (3, PV.bool false)]) [])
          (k Ex.normal
            (pl 32
              [(2, PV.nils), (3, PV.bool false), (4, PV.ptr 0 0),
                (5, PV.all 1)])
            [Blk.box 38 [PV.str (bl (List.tail (List.tail (Array.toList (ByteArray.data s))))), PV.bool true],
              Blk.arr 32
                [[PV.int IntKind.i64
                      (IntKind.wrap IntKind.i64
                        (IntKind.wrap IntKind.i64
                            (↑(UInt8.toNat (List.headD (Array.toList (ByteArray.data s)) (0 : UInt8))) : Int) -
                          (1 : Int))),
                    PV.int IntKind.i64
                      (IntKind.wrap IntKind.i64
                        (↑(UInt8.toNat (List.headD (List.tail (Array.toList (ByteArray.data s))) (0 : UInt8))) : Int)),
                    PV.str { data := #[] }]]
                true])))
      (br
        (IntKind.wrap IntKind.i64
            (IntKind.wrap IntKind.i64
                (↑(UInt8.toNat (List.headD (Array.toList (ByteArray.data s)) (0 : UInt8))) : Int) -
              (1 : Int)) ==
          (2 : Int))
        (br (List.isEmpty (List.tail (Array.toList (ByteArray.data s))))
          (k Ex.ret (pl 32 [(2, PV.nils), (3, PV.bool false)]) [])
          (br (List.isEmpty (List.tail (List.tail (Array.toList (ByteArray.data s)))))
            (k Ex.ret (pl 32 [(2, PV.nils), (3, PV.bool false)]) [])
            (br (List.isEmpty (List.tail (List.tail (List.tail (Array.toList (ByteArray.data s))))))
              (k Ex.ret (pl 32 [(2, PV.nils), (3, PV.bool false)]) [])
              (br (List.isEmpty (List.tail (List.tail (List.tail (List.tail (Array.toList (ByteArray.data s)))))))
                (k Ex.ret (pl 32 [(2, PV.nils), (3, PV.bool false)]) [])
                (br
                  (List.isEmpty
                    (List.tail (List.tail (List.tail (List.tail (List.tail (Array.toList (ByteArray.data s))))))))
                  (k Ex.ret (pl 32 [(2, PV.nils), (3, PV.bool false)]) [])
                  (br
                    (List.isEmpty
                      (List.tail
                        (List.tail (List.tail (List.tail (List.tail (List.tail (Array.toList (ByteArray.data s)))))))))
                    (k Ex.ret (pl 32 [(2, PV.nils), (3, PV.bool false)]) [])
                    (br
                      (List.isEmpty
                        (List.tail
                          (List.tail
                            (List.tail
                              (List.tail (List.tail (List.tail (List.tail (Array.toList (ByteArray.data s))))))))))
                      (k Ex.ret (pl 32 [(2, PV.nils), (3, PV.bool false)]) [])
                      (br
                        (List.isEmpty
                          (List.tail
                            (List.tail
                              (List.tail
                                (List.tail
                                  (List.tail (List.tail (List.tail (List.tail (Array.toList (ByteArray.data s)))))))))))
                        (k Ex.ret (pl 32 [(2, PV.nils), (3, PV.bool false)]) [])
                        (br
                          (!mayV
                              (IntKind.wrap IntKind.i64
                                (IntKind.wrap IntKind.i64
                                    (↑(UInt8.toNat (List.headD (Array.toList (ByteArray.data s)) (0 : UInt8))) : Int) -
                                  (1 : Int)))
                              (IntKind.wrap IntKind.i64
                                (IntKind.wrap IntKind.u64
                                  (IntKind.wrap IntKind.u64
                                      (↑(BitVec.toNat
                                            (BitVec.ofInt 64
                                                (IntKind.wrap IntKind.u64
                                                  (IntKind.wrap IntKind.u64
                                                      (↑(BitVec.toNat
                                                            (BitVec.ofInt 64
                                                                (IntKind.wrap IntKind.u64
                                                                  (IntKind.wrap IntKind.u64
                                                                      (↑(BitVec.toNat
                                                                            (BitVec.ofInt 64
                                                                                (IntKind.wrap IntKind.u64
                                                                                  (IntKind.wrap IntKind.u64
                                                                                      (↑(BitVec.toNat
                                                                                            (BitVec.ofInt 64
                                                                                                (IntKind.wrap
                                                                                                  IntKind.u64
                                                                                                  (IntKind.wrap
                                                                                                      IntKind.u64
                                                                                                      (↑(BitVec.toNat
                                                                                                            (BitVec.ofInt
                                                                                                                (64 :
                                                                                                                  Nat)
                                                                                                                (IntKind.wrap
                                                                                                                  IntKind.u64
                                                                                                                  (IntKind.wrap
                                                                                                                      IntKind.u64
                                                                                                                      (↑(BitVec.toNat
                                                                                                                            (BitVec.ofInt
                                                                                                                                (64 :
                                                                                                                                  Nat)
                                                                                                                                (IntKind.wrap
                                                                                                                                  IntKind.u64
                                                                                                                                  (IntKind.wrap
                                                                                                                                      IntKind.u64
                                                                                                                                      (↑(BitVec.toNat
                                                                                                                                            (BitVec.ofInt
                                                                                                                                                (64 :
                                                                                                                                                  Nat)
                                                                                                                                                (IntKind.wrap
                                                                                                                                                  IntKind.u64
                                                                                                                                                  (IntKind.wrap
                                                                                                                                                      IntKind.u64
                                                                                                                                                      (↑(BitVec.toNat
                                                                                                                                                            (BitVec.ofInt
                                                                                                                                                                (64 :
                                                                                                                                                                  Nat)
                                                                                                                                                                (0 :
                                                                                                                                                                  Int) |||
                                                                                                                                                              BitVec.ofInt
                                                                                                                                                                (64 :
                                                                                                                                                                  Nat)
                                                                                                                                                                (IntKind.wrap
                                                                                                                                                                  IntKind.u64
                                                                                                                                                                  (↑(UInt8.toNat
                                                                                                                                                                        (List.headD
                                                                                                                                                                          (List.tail
                                                                                                                                                                            (Array.toList
                                                                                                                                                                              (ByteArray.data
                                                                                                                                                                                s)))
                                                                                                                                                                          (0 :
                                                                                                                                                                            UInt8))) :
                                                                                                                                                                    Int)))) :
                                                                                                                                                        Int) *
                                                                                                                                                    (256 :
                                                                                                                                                      Int))) |||
                                                                                                                                              BitVec.ofInt
                                                                                                                                                (64 :
                                                                                                                                                  Nat)
                                                                                                                                                (IntKind.wrap
                                                                                                                                                  IntKind.u64
                                                                                                                                                  (↑(UInt8.toNat
                                                                                                                                                        (List.headD
                                                                                                                                                          (List.tail
                                                                                                                                                            (List.tail
                                                                                                                                                              (Array.toList
                                                                                                                                                                (ByteArray.data
                                                                                                                                                                  s))))
                                                                                                                                                          (0 :
                                                                                                                                                            UInt8))) :
                                                                                                                                                    Int)))) :
                                                                                                                                        Int) *
                                                                                                                                    (256 :
                                                                                                                                      Int))) |||
                                                                                                                              BitVec.ofInt
                                                                                                                                (64 :
                                                                                                                                  Nat)
                                                                                                                                (IntKind.wrap
                                                                                                                                  IntKind.u64
                                                                                                                                  (↑(UInt8.toNat
                                                                                                                                        (List.headD
                                                                                                                                          (List.tail
                                                                                                                                            (List.tail
                                                                                                                                              (List.tail
                                                                                                                                                (Array.toList
                                                                                                                                                  (ByteArray.data
                                                                                                                                                    s)))))
                                                                                                                                          (0 :
                                                                                                                                            UInt8))) :
                                                                                                                                    Int)))) :
                                                                                                                        Int) *
                                                                                                                    (256 :
                                                                                                                      Int))) |||
                                                                                                              BitVec.ofInt
                                                                                                                (64 :
                                                                                                                  Nat)
                                                                                                                (IntKind.wrap
                                                                                                                  IntKind.u64
                                                                                                                  (↑(UInt8.toNat
                                                                                                                        (List.headD
                                                                                                                          (List.tail
                                                                                                                            (List.tail
                                                                                                                              (List.tail
                                                                                                                                (List.tail
                                                                                                                                  (Array.toList
                                                                                                                                    (ByteArray.data
                                                                                                                                      s))))))
                                                                                                                          (0 :
                                                                                                                            UInt8))) :
                                                                                                                    Int)))) :
                                                                                                        Int) *
                                                                                                    (256 : Int))) |||
                                                                                              BitVec.ofInt 64
                                                                                                (IntKind.wrap
                                                                                                  IntKind.u64
                                                                                                  (↑(UInt8.toNat
                                                                                                        (List.headD
                                                                                                          (List.tail
                                                                                                            (List.tail
                                                                                                              (List.tail
                                                                                                                (List.tail
                                                                                                                  (List.tail
                                                                                                                    (Array.toList
                                                                                                                      (ByteArray.data
                                                                                                                        s)))))))
                                                                                                          (0 :
                                                                                                            UInt8))) :
                                                                                                    Int)))) :
                                                                                        Int) *
                                                                                    (256 : Int))) |||
                                                                              BitVec.ofInt 64
                                                                                (IntKind.wrap IntKind.u64
                                                                                  (↑(UInt8.toNat
                                                                                        (List.headD
                                                                                          (List.tail
                                                                                            (List.tail
                                                                                              (List.tail
                                                                                                (List.tail
                                                                                                  (List.tail
                                                                                                    (List.tail
                                                                                                      (Array.toList
                                                                                                        (ByteArray.data
                                                                                                          s))))))))
                                                                                          (0 : UInt8))) :
                                                                                    Int)))) :
                                                                        Int) *
                                                                    (256 : Int))) |||
                                                              BitVec.ofInt 64
                                                                (IntKind.wrap IntKind.u64
                                                                  (↑(UInt8.toNat
                                                                        (List.headD
                                                                          (List.tail
                                                                            (List.tail
                                                                              (List.tail
                                                                                (List.tail
                                                                                  (List.tail
                                                                                    (List.tail
                                                                                      (List.tail
                                                                                        (Array.toList
                                                                                          (ByteArray.data s)))))))))
                                                                          (0 : UInt8))) :
                                                                    Int)))) :
                                                        Int) *
                                                    (256 : Int))) |||
                                              BitVec.ofInt 64
                                                (IntKind.wrap IntKind.u64
                                                  (↑(UInt8.toNat
                                                        (List.headD
                                                          (List.tail
                                                            (List.tail
                                                              (List.tail
                                                                (List.tail
                                                                  (List.tail
                                                                    (List.tail
                                                                      (List.tail
                                                                        (List.tail
                                                                          (Array.toList (ByteArray.data s))))))))))
                                                          (0 : UInt8))) :
                                                    Int)))) :
                                        Int) -
                                    (9223372036854775808 : Int))))
                              { data := #[] })
                          (k Ex.ret (pl 32 [(2, PV.nils), (3, PV.bool false)]) [])
                          (k Ex.normal
                            (pl 32
                              [(2, PV.nils), (3, PV.bool false),
                                (4, PV.ptr 0 0), (5, PV.all 1)])
                            [Blk.box 38
                                [PV.str
                                    (bl
                                      (List.tail
                                        (List.tail
                                          (List.tail
                                            (List.tail
                                              (List.tail
                                                (List.tail
                                                  (List.tail
                                                    (List.tail (List.tail (Array.toList (ByteArray.data s)))))))))))),
                                  PV.bool true],
                              Blk.arr 32
                                [[PV.int IntKind.i64
                                      (IntKind.wrap IntKind.i64
                                        (IntKind.wrap IntKind.i64
                                            (↑(UInt8.toNat (List.headD (Array.toList (ByteArray.data s)) (0 : UInt8))) :
                                              Int) -
                                          (1 : Int))),
                                    PV.int IntKind.i64
                                      (IntKind.wrap IntKind.i64
                                        (IntKind.wrap IntKind.u64
                                          (IntKind.wrap IntKind.u64
                                              (↑(BitVec.toNat
                                                    (BitVec.ofInt 64
                                                        (IntKind.wrap IntKind.u64
                                                          (IntKind.wrap IntKind.u64
                                                              (↑(BitVec.toNat
                                                                    (BitVec.ofInt 64
                                                                        (IntKind.wrap IntKind.u64
                                                                          (IntKind.wrap IntKind.u64
                                                                              (↑(BitVec.toNat
                                                                                    (BitVec.ofInt 64
                                                                                        (IntKind.wrap IntKind.u64
                                                                                          (IntKind.wrap IntKind.u64
                                                                                              (↑(BitVec.toNat
                                                                                                    (BitVec.ofInt
                                                                                                        64
                                                                                                        (IntKind.wrap
                                                                                                          IntKind.u64
                                                                                                          (IntKind.wrap
                                                                                                              IntKind.u64
                                                                                                              (↑(BitVec.toNat
                                                                                                                    (BitVec.ofInt
                                                                                                                        (64 :
                                                                                                                          Nat)
                                                                                                                        (IntKind.wrap
                                                                                                                          IntKind.u64
                                                                                                                          (IntKind.wrap
                                                                                                                              IntKind.u64
                                                                                                                              (↑(BitVec.toNat
                                                                                                                                    (BitVec.ofInt
                                                                                                                                        (64 :
                                                                                                                                          Nat)
                                                                                                                                        (IntKind.wrap
                                                                                                                                          IntKind.u64
                                                                                                                                          (IntKind.wrap
                                                                                                                                              IntKind.u64
                                                                                                                                              (↑(BitVec.toNat
                                                                                                                                                    (BitVec.ofInt
                                                                                                                                                        (64 :
                                                                                                                                                          Nat)
                                                                                                                                                        (IntKind.wrap
                                                                                                                                                          IntKind.u64
                                                                                                                                                          (IntKind.wrap
                                                                                                                                                              IntKind.u64
                                                                                                                                                              (↑(BitVec.toNat
                                                                                                                                                                    (BitVec.ofInt
                                                                                                                                                                        (64 :
                                                                                                                                                                          Nat)
                                                                                                                                                                        (0 :
                                                                                                                                                                          Int) |||
                                                                                                                                                                      BitVec.ofInt
                                                                                                                                                                        (64 :
                                                                                                                                                                          Nat)
                                                                                                                                                                        (IntKind.wrap
                                                                                                                                                                          IntKind.u64
                                                                                                                                                                          (↑(UInt8.toNat
                                                                                                                                                                                (List.headD
                                                                                                                                                                                  (List.tail
                                                                                                                                                                                    (Array.toList
                                                                                                                                                                                      (ByteArray.data
                                                                                                                                                                                        s)))
                                                                                                                                                                                  (0 :
                                                                                                                                                                                    UInt8))) :
                                                                                                                                                                            Int)))) :
                                                                                                                                                                Int) *
                                                                                                                                                            (256 :
                                                                                                                                                              Int))) |||
                                                                                                                                                      BitVec.ofInt
                                                                                                                                                        (64 :
                                                                                                                                                          Nat)
                                                                                                                                                        (IntKind.wrap
                                                                                                                                                          IntKind.u64
                                                                                                                                                          (↑(UInt8.toNat
                                                                                                                                                                (List.headD
                                                                                                                                                                  (List.tail
                                                                                                                                                                    (List.tail
                                                                                                                                                                      (Array.toList
                                                                                                                                                                        (ByteArray.data
                                                                                                                                                                          s))))
                                                                                                                                                                  (0 :
                                                                                                                                                                    UInt8))) :
                                                                                                                                                            Int)))) :
                                                                                                                                                Int) *
                                                                                                                                            (256 :
                                                                                                                                              Int))) |||
                                                                                                                                      BitVec.ofInt
                                                                                                                                        (64 :
                                                                                                                                          Nat)
                                                                                                                                        (IntKind.wrap
                                                                                                                                          IntKind.u64
                                                                                                                                          (↑(UInt8.toNat
                                                                                                                                                (List.headD
                                                                                                                                                  (List.tail
                                                                                                                                                    (List.tail
                                                                                                                                                      (List.tail
                                                                                                                                                        (Array.toList
                                                                                                                                                          (ByteArray.data
                                                                                                                                                            s)))))
                                                                                                                                                  (0 :
                                                                                                                                                    UInt8))) :
                                                                                                                                            Int)))) :
                                                                                                                                Int) *
                                                                                                                            (256 :
                                                                                                                              Int))) |||
                                                                                                                      BitVec.ofInt
                                                                                                                        (64 :
                                                                                                                          Nat)
                                                                                                                        (IntKind.wrap
                                                                                                                          IntKind.u64
                                                                                                                          (↑(UInt8.toNat
                                                                                                                                (List.headD
                                                                                                                                  (List.tail
                                                                                                                                    (List.tail
                                                                                                                                      (List.tail
                                                                                                                                        (List.tail
                                                                                                                                          (Array.toList
                                                                                                                                            (ByteArray.data
                                                                                                                                              s))))))
                                                                                                                                  (0 :
                                                                                                                                    UInt8))) :
                                                                                                                            Int)))) :
                                                                                                                Int) *
                                                                                                            (256 :
                                                                                                              Int))) |||
                                                                                                      BitVec.ofInt
                                                                                                        64
                                                                                                        (IntKind.wrap
                                                                                                          IntKind.u64
                                                                                                          (↑(UInt8.toNat
                                                                                                                (List.headD
                                                                                                                  (List.tail
                                                                                                                    (List.tail
                                                                                                                      (List.tail
                                                                                                                        (List.tail
                                                                                                                          (List.tail
                                                                                                                            (Array.toList
                                                                                                                              (ByteArray.data
                                                                                                                                s)))))))
                                                                                                                  (0 :
                                                                                                                    UInt8))) :
                                                                                                            Int)))) :
                                                                                                Int) *
                                                                                            (256 : Int))) |||
                                                                                      BitVec.ofInt 64
                                                                                        (IntKind.wrap IntKind.u64
                                                                                          (↑(UInt8.toNat
                                                                                                (List.headD
                                                                                                  (List.tail
                                                                                                    (List.tail
                                                                                                      (List.tail
                                                                                                        (List.tail
                                                                                                          (List.tail
                                                                                                            (List.tail
                                                                                                              (Array.toList
                                                                                                                (ByteArray.data
                                                                                                                  s))))))))
                                                                                                  (0 : UInt8))) :
                                                                                            Int)))) :
                                                                                Int) *
                                                                            (256 : Int))) |||
                                                                      BitVec.ofInt 64
                                                                        (IntKind.wrap IntKind.u64
                                                                          (↑(UInt8.toNat
                                                                                (List.headD
                                                                                  (List.tail
                                                                                    (List.tail
                                                                                      (List.tail
                                                                                        (List.tail
                                                                                          (List.tail
                                                                                            (List.tail
                                                                                              (List.tail
                                                                                                (Array.toList
                                                                                                  (ByteArray.data
                                                                                                    s)))))))))
                                                                                  (0 : UInt8))) :
                                                                            Int)))) :
                                                                Int) *
                                                            (256 : Int))) |||
                                                      BitVec.ofInt 64
                                                        (IntKind.wrap IntKind.u64
                                                          (↑(UInt8.toNat
                                                                (List.headD
                                                                  (List.tail
                                                                    (List.tail
                                                                      (List.tail
                                                                        (List.tail
                                                                          (List.tail
                                                                            (List.tail
                                                                              (List.tail
                                                                                (List.tail
                                                                                  (Array.toList
                                                                                    (ByteArray.data s))))))))))
                                                                  (0 : UInt8))) :
                                                            Int)))) :
                                                Int) -
                                            (9223372036854775808 : Int)))),
                                    PV.str { data := #[] }]]
                                true]))))))))))
        (br
          (IntKind.wrap IntKind.i64
              (IntKind.wrap IntKind.i64
                  (↑(UInt8.toNat (List.headD (Array.toList (ByteArray.data s)) (0 : UInt8))) : Int) -
                (1 : Int)) ==
            (3 : Int))
          (br (decide (ByteArray.size (bl (List.tail (Array.toList (ByteArray.data s)))) ≤ 999999999999))
            (br (decide (Prod.fst (txt (List.tail (Array.toList (ByteArray.data s)))) = []))
              (br (!Prod.snd (Prod.snd (txt (List.tail (Array.toList (ByteArray.data s))))))
                (k Ex.ret (pl 32 [(2, PV.nils), (3, PV.bool false)]) [])
                (br
                  (!mayV
                      (IntKind.wrap IntKind.i64
                        (IntKind.wrap IntKind.i64
                            (↑(UInt8.toNat (List.headD (Array.toList (ByteArray.data s)) (0 : UInt8))) : Int) -
                          (1 : Int)))
                      (0 : Int) (strOf []))
                  (k Ex.ret (pl 32 [(2, PV.nils), (3, PV.bool false)]) [])
                  (k Ex.normal
                    (pl 32
                      [(2, PV.nils), (3, PV.bool false), (4, PV.ptr 0 0),
                        (5, PV.all 1)])
                    [Blk.box 38
                        [PV.str (bl (Prod.fst (Prod.snd (txt (List.tail (Array.toList (ByteArray.data s))))))),
                          PV.bool (Prod.snd (Prod.snd (txt (List.tail (Array.toList (ByteArray.data s))))))],
                      Blk.arr 32
                        [[PV.int IntKind.i64
                              (IntKind.wrap IntKind.i64
                                (IntKind.wrap IntKind.i64
                                    (↑(UInt8.toNat (List.headD (Array.toList (ByteArray.data s)) (0 : UInt8))) : Int) -
                                  (1 : Int))),
                            PV.int IntKind.i64 (0 : Int), PV.str (strOf [])]]
                        true])))
              (br (!Prod.snd (Prod.snd (txt (List.tail (Array.toList (ByteArray.data s))))))
                (k Ex.ret (pl 32 [(2, PV.nils), (3, PV.bool false)]) [])
                (br
                  (!mayV
                      (IntKind.wrap IntKind.i64
                        (IntKind.wrap IntKind.i64
                            (↑(UInt8.toNat (List.headD (Array.toList (ByteArray.data s)) (0 : UInt8))) : Int) -
                          (1 : Int)))
                      (0 : Int) (strOf (bc (Prod.fst (txt (List.tail (Array.toList (ByteArray.data s))))))))
                  (k Ex.ret (pl 32 [(2, PV.nils), (3, PV.bool false)]) [])
                  (k Ex.normal
                    (pl 32
                      [(2, PV.nils), (3, PV.bool false), (4, PV.ptr 0 0),
                        (5, PV.all 1)])
                    [Blk.box 38
                        [PV.str (bl (Prod.fst (Prod.snd (txt (List.tail (Array.toList (ByteArray.data s))))))),
                          PV.bool (Prod.snd (Prod.snd (txt (List.tail (Array.toList (ByteArray.data s))))))],
                      Blk.arr 32
                        [[PV.int IntKind.i64
                              (IntKind.wrap IntKind.i64
                                (IntKind.wrap IntKind.i64
                                    (↑(UInt8.toNat (List.headD (Array.toList (ByteArray.data s)) (0 : UInt8))) : Int) -
                                  (1 : Int))),
                            PV.int IntKind.i64 (0 : Int),
                            PV.str (strOf (bc (Prod.fst (txt (List.tail (Array.toList (ByteArray.data s)))))))]]
                        true]))))
            none)
          (br
            (!mayV
                (IntKind.wrap IntKind.i64
                  (IntKind.wrap IntKind.i64
                      (↑(UInt8.toNat (List.headD (Array.toList (ByteArray.data s)) (0 : UInt8))) : Int) -
                    (1 : Int)))
                (0 : Int) { data := #[] })
            (k Ex.ret (pl 32 [(2, PV.nils), (3, PV.bool false)]) [])
            (k Ex.normal
              (pl 32
                [(2, PV.nils), (3, PV.bool false), (4, PV.ptr 0 0),
                  (5, PV.all 1)])
              [Blk.box 38 [PV.str (bl (List.tail (Array.toList (ByteArray.data s)))), PV.bool true],
                Blk.arr 32
                  [[PV.int IntKind.i64
                        (IntKind.wrap IntKind.i64
                          (IntKind.wrap IntKind.i64
                              (↑(UInt8.toNat (List.headD (Array.toList (ByteArray.data s)) (0 : UInt8))) : Int) -
                            (1 : Int))),
                      PV.int IntKind.i64 (0 : Int), PV.str { data := #[] }]]
                  true]))))))
  (k (Ex.exit 0) (pl 32 [(5, PV.nils)]) []) := by
  rw [← callF_eq, ← runF_eq]; kernel_rfl

set_option maxRecDepth 100000 in
theorem rd10 {R : Type} (n : Nat) (s : ByteArray) (es : List (List PV)) (k : Ex → List PV → Heap → Option R) :
  runK br Try.prog (callK br Try.prog X6 M0 L3 (LS5 br) (n+24)) M0 (fun _ => none) (n+24) 0 (L3 10) (bodyOf Try.prog 10 3) (pl 32 [(2, .nils), (3, .bool false), (4, .ptr 0 0), (5, .all 1)]) [.box 38 [.str s, .bool true], .arr 32 es true] (fun e ts h => (cleanX 0 (L3 10) 3 e ts h).bind fun c => k e c.1 c.2) =
  br (!ByteArray.toList s == [])
  (br (List.isEmpty (Array.toList (ByteArray.data s)))
    (k Ex.ret (pl 32 [(2, PV.nils), (3, PV.bool false)]) [])
    (br
      (IntKind.wrap IntKind.i64
          (IntKind.wrap IntKind.i64 (↑(UInt8.toNat (List.headD (Array.toList (ByteArray.data s)) (0 : UInt8))) : Int) -
            (1 : Int)) ==
        (1 : Int))
      (br (List.isEmpty (List.tail (Array.toList (ByteArray.data s))))
        (k Ex.ret (pl 32 [(2, PV.nils), (3, PV.bool false)]) [])
        (br
          (!mayV
              (IntKind.wrap IntKind.i64
                (IntKind.wrap IntKind.i64
                    (↑(UInt8.toNat (List.headD (Array.toList (ByteArray.data s)) (0 : UInt8))) : Int) -
                  (1 : Int)))
              (IntKind.wrap IntKind.i64
                (↑(UInt8.toNat (List.headD (List.tail (Array.toList (ByteArray.data s))) (0 : UInt8))) : Int))
              { data := #[] })
          (k Ex.ret (pl 32 [(2, PV.nils), (3, PV.bool false)]) [])
          (br (decide ((List.length es + 1) * 32 ≤ 140737488355328))
            (k Ex.normal
              (pl 32
                [(2, PV.nils), (3, PV.bool false), (4, PV.ptr 0 0),
                  (5, PV.all 1)])
              [Blk.box 38 [PV.str (bl (List.tail (List.tail (Array.toList (ByteArray.data s))))), PV.bool true],
                Blk.arr 32
                  (es ++
                    [[PV.int IntKind.i64
                          (IntKind.wrap IntKind.i64
                            (IntKind.wrap IntKind.i64
                                (↑(UInt8.toNat (List.headD (Array.toList (ByteArray.data s)) (0 : UInt8))) : Int) -
                              (1 : Int))),
                        PV.int IntKind.i64
                          (IntKind.wrap IntKind.i64
                            (↑(UInt8.toNat (List.headD (List.tail (Array.toList (ByteArray.data s))) (0 : UInt8))) :
                              Int)),
                        PV.str { data := #[] }]])
                  true])
            none)))
      (br
        (IntKind.wrap IntKind.i64
            (IntKind.wrap IntKind.i64
                (↑(UInt8.toNat (List.headD (Array.toList (ByteArray.data s)) (0 : UInt8))) : Int) -
              (1 : Int)) ==
          (2 : Int))
        (br (List.isEmpty (List.tail (Array.toList (ByteArray.data s))))
          (k Ex.ret (pl 32 [(2, PV.nils), (3, PV.bool false)]) [])
          (br (List.isEmpty (List.tail (List.tail (Array.toList (ByteArray.data s)))))
            (k Ex.ret (pl 32 [(2, PV.nils), (3, PV.bool false)]) [])
            (br (List.isEmpty (List.tail (List.tail (List.tail (Array.toList (ByteArray.data s))))))
              (k Ex.ret (pl 32 [(2, PV.nils), (3, PV.bool false)]) [])
              (br (List.isEmpty (List.tail (List.tail (List.tail (List.tail (Array.toList (ByteArray.data s)))))))
                (k Ex.ret (pl 32 [(2, PV.nils), (3, PV.bool false)]) [])
                (br
                  (List.isEmpty
                    (List.tail (List.tail (List.tail (List.tail (List.tail (Array.toList (ByteArray.data s))))))))
                  (k Ex.ret (pl 32 [(2, PV.nils), (3, PV.bool false)]) [])
                  (br
                    (List.isEmpty
                      (List.tail
                        (List.tail (List.tail (List.tail (List.tail (List.tail (Array.toList (ByteArray.data s)))))))))
                    (k Ex.ret (pl 32 [(2, PV.nils), (3, PV.bool false)]) [])
                    (br
                      (List.isEmpty
                        (List.tail
                          (List.tail
                            (List.tail
                              (List.tail (List.tail (List.tail (List.tail (Array.toList (ByteArray.data s))))))))))
                      (k Ex.ret (pl 32 [(2, PV.nils), (3, PV.bool false)]) [])
                      (br
                        (List.isEmpty
                          (List.tail
                            (List.tail
                              (List.tail
                                (List.tail
                                  (List.tail (List.tail (List.tail (List.tail (Array.toList (ByteArray.data s)))))))))))
                        (k Ex.ret (pl 32 [(2, PV.nils), (3, PV.bool false)]) [])
                        (br
                          (!mayV
                              (IntKind.wrap IntKind.i64
                                (IntKind.wrap IntKind.i64
                                    (↑(UInt8.toNat (List.headD (Array.toList (ByteArray.data s)) (0 : UInt8))) : Int) -
                                  (1 : Int)))
                              (IntKind.wrap IntKind.i64
                                (IntKind.wrap IntKind.u64
                                  (IntKind.wrap IntKind.u64
                                      (↑(BitVec.toNat
                                            (BitVec.ofInt 64
                                                (IntKind.wrap IntKind.u64
                                                  (IntKind.wrap IntKind.u64
                                                      (↑(BitVec.toNat
                                                            (BitVec.ofInt 64
                                                                (IntKind.wrap IntKind.u64
                                                                  (IntKind.wrap IntKind.u64
                                                                      (↑(BitVec.toNat
                                                                            (BitVec.ofInt 64
                                                                                (IntKind.wrap IntKind.u64
                                                                                  (IntKind.wrap IntKind.u64
                                                                                      (↑(BitVec.toNat
                                                                                            (BitVec.ofInt 64
                                                                                                (IntKind.wrap
                                                                                                  IntKind.u64
                                                                                                  (IntKind.wrap
                                                                                                      IntKind.u64
                                                                                                      (↑(BitVec.toNat
                                                                                                            (BitVec.ofInt
                                                                                                                (64 :
                                                                                                                  Nat)
                                                                                                                (IntKind.wrap
                                                                                                                  IntKind.u64
                                                                                                                  (IntKind.wrap
                                                                                                                      IntKind.u64
                                                                                                                      (↑(BitVec.toNat
                                                                                                                            (BitVec.ofInt
                                                                                                                                (64 :
                                                                                                                                  Nat)
                                                                                                                                (IntKind.wrap
                                                                                                                                  IntKind.u64
                                                                                                                                  (IntKind.wrap
                                                                                                                                      IntKind.u64
                                                                                                                                      (↑(BitVec.toNat
                                                                                                                                            (BitVec.ofInt
                                                                                                                                                (64 :
                                                                                                                                                  Nat)
                                                                                                                                                (IntKind.wrap
                                                                                                                                                  IntKind.u64
                                                                                                                                                  (IntKind.wrap
                                                                                                                                                      IntKind.u64
                                                                                                                                                      (↑(BitVec.toNat
                                                                                                                                                            (BitVec.ofInt
                                                                                                                                                                (64 :
                                                                                                                                                                  Nat)
                                                                                                                                                                (0 :
                                                                                                                                                                  Int) |||
                                                                                                                                                              BitVec.ofInt
                                                                                                                                                                (64 :
                                                                                                                                                                  Nat)
                                                                                                                                                                (IntKind.wrap
                                                                                                                                                                  IntKind.u64
                                                                                                                                                                  (↑(UInt8.toNat
                                                                                                                                                                        (List.headD
                                                                                                                                                                          (List.tail
                                                                                                                                                                            (Array.toList
                                                                                                                                                                              (ByteArray.data
                                                                                                                                                                                s)))
                                                                                                                                                                          (0 :
                                                                                                                                                                            UInt8))) :
                                                                                                                                                                    Int)))) :
                                                                                                                                                        Int) *
                                                                                                                                                    (256 :
                                                                                                                                                      Int))) |||
                                                                                                                                              BitVec.ofInt
                                                                                                                                                (64 :
                                                                                                                                                  Nat)
                                                                                                                                                (IntKind.wrap
                                                                                                                                                  IntKind.u64
                                                                                                                                                  (↑(UInt8.toNat
                                                                                                                                                        (List.headD
                                                                                                                                                          (List.tail
                                                                                                                                                            (List.tail
                                                                                                                                                              (Array.toList
                                                                                                                                                                (ByteArray.data
                                                                                                                                                                  s))))
                                                                                                                                                          (0 :
                                                                                                                                                            UInt8))) :
                                                                                                                                                    Int)))) :
                                                                                                                                        Int) *
                                                                                                                                    (256 :
                                                                                                                                      Int))) |||
                                                                                                                              BitVec.ofInt
                                                                                                                                (64 :
                                                                                                                                  Nat)
                                                                                                                                (IntKind.wrap
                                                                                                                                  IntKind.u64
                                                                                                                                  (↑(UInt8.toNat
                                                                                                                                        (List.headD
                                                                                                                                          (List.tail
                                                                                                                                            (List.tail
                                                                                                                                              (List.tail
                                                                                                                                                (Array.toList
                                                                                                                                                  (ByteArray.data
                                                                                                                                                    s)))))
                                                                                                                                          (0 :
                                                                                                                                            UInt8))) :
                                                                                                                                    Int)))) :
                                                                                                                        Int) *
                                                                                                                    (256 :
                                                                                                                      Int))) |||
                                                                                                              BitVec.ofInt
                                                                                                                (64 :
                                                                                                                  Nat)
                                                                                                                (IntKind.wrap
                                                                                                                  IntKind.u64
                                                                                                                  (↑(UInt8.toNat
                                                                                                                        (List.headD
                                                                                                                          (List.tail
                                                                                                                            (List.tail
                                                                                                                              (List.tail
                                                                                                                                (List.tail
                                                                                                                                  (Array.toList
                                                                                                                                    (ByteArray.data
                                                                                                                                      s))))))
                                                                                                                          (0 :
                                                                                                                            UInt8))) :
                                                                                                                    Int)))) :
                                                                                                        Int) *
                                                                                                    (256 : Int))) |||
                                                                                              BitVec.ofInt 64
                                                                                                (IntKind.wrap
                                                                                                  IntKind.u64
                                                                                                  (↑(UInt8.toNat
                                                                                                        (List.headD
                                                                                                          (List.tail
                                                                                                            (List.tail
                                                                                                              (List.tail
                                                                                                                (List.tail
                                                                                                                  (List.tail
                                                                                                                    (Array.toList
                                                                                                                      (ByteArray.data
                                                                                                                        s)))))))
                                                                                                          (0 :
                                                                                                            UInt8))) :
                                                                                                    Int)))) :
                                                                                        Int) *
                                                                                    (256 : Int))) |||
                                                                              BitVec.ofInt 64
                                                                                (IntKind.wrap IntKind.u64
                                                                                  (↑(UInt8.toNat
                                                                                        (List.headD
                                                                                          (List.tail
                                                                                            (List.tail
                                                                                              (List.tail
                                                                                                (List.tail
                                                                                                  (List.tail
                                                                                                    (List.tail
                                                                                                      (Array.toList
                                                                                                        (ByteArray.data
                                                                                                          s))))))))
                                                                                          (0 : UInt8))) :
                                                                                    Int)))) :
                                                                        Int) *
                                                                    (256 : Int))) |||
                                                              BitVec.ofInt 64
                                                                (IntKind.wrap IntKind.u64
                                                                  (↑(UInt8.toNat
                                                                        (List.headD
                                                                          (List.tail
                                                                            (List.tail
                                                                              (List.tail
                                                                                (List.tail
                                                                                  (List.tail
                                                                                    (List.tail
                                                                                      (List.tail
                                                                                        (Array.toList
                                                                                          (ByteArray.data s)))))))))
                                                                          (0 : UInt8))) :
                                                                    Int)))) :
                                                        Int) *
                                                    (256 : Int))) |||
                                              BitVec.ofInt 64
                                                (IntKind.wrap IntKind.u64
                                                  (↑(UInt8.toNat
                                                        (List.headD
                                                          (List.tail
                                                            (List.tail
                                                              (List.tail
                                                                (List.tail
                                                                  (List.tail
                                                                    (List.tail
                                                                      (List.tail
                                                                        (List.tail
                                                                          (Array.toList (ByteArray.data s))))))))))
                                                          (0 : UInt8))) :
                                                    Int)))) :
                                        Int) -
                                    (9223372036854775808 : Int))))
                              { data := #[] })
                          (k Ex.ret (pl 32 [(2, PV.nils), (3, PV.bool false)]) [])
                          (br (decide ((List.length es + 1) * 32 ≤ 140737488355328))
                            (k Ex.normal
                              (pl 32
                                [(2, PV.nils), (3, PV.bool false),
                                  (4, PV.ptr 0 0), (5, PV.all 1)])
                              [Blk.box 38
                                  [PV.str
                                      (bl
                                        (List.tail
                                          (List.tail
                                            (List.tail
                                              (List.tail
                                                (List.tail
                                                  (List.tail
                                                    (List.tail
                                                      (List.tail (List.tail (Array.toList (ByteArray.data s)))))))))))),
                                    PV.bool true],
                                Blk.arr 32
                                  (es ++
                                    [[PV.int IntKind.i64
                                          (IntKind.wrap IntKind.i64
                                            (IntKind.wrap IntKind.i64
                                                (↑(UInt8.toNat
                                                      (List.headD (Array.toList (ByteArray.data s)) (0 : UInt8))) :
                                                  Int) -
                                              (1 : Int))),
                                        PV.int IntKind.i64
                                          (IntKind.wrap IntKind.i64
                                            (IntKind.wrap IntKind.u64
                                              (IntKind.wrap IntKind.u64
                                                  (↑(BitVec.toNat
                                                        (BitVec.ofInt 64
                                                            (IntKind.wrap IntKind.u64
                                                              (IntKind.wrap IntKind.u64
                                                                  (↑(BitVec.toNat
                                                                        (BitVec.ofInt 64
                                                                            (IntKind.wrap IntKind.u64
                                                                              (IntKind.wrap IntKind.u64
                                                                                  (↑(BitVec.toNat
                                                                                        (BitVec.ofInt 64
                                                                                            (IntKind.wrap IntKind.u64
                                                                                              (IntKind.wrap IntKind.u64
                                                                                                  (↑(BitVec.toNat
                                                                                                        (BitVec.ofInt
                                                                                                            64
                                                                                                            (IntKind.wrap
                                                                                                              IntKind.u64
                                                                                                              (IntKind.wrap
                                                                                                                  IntKind.u64
                                                                                                                  (↑(BitVec.toNat
                                                                                                                        (BitVec.ofInt
                                                                                                                            (64 :
                                                                                                                              Nat)
                                                                                                                            (IntKind.wrap
                                                                                                                              IntKind.u64
                                                                                                                              (IntKind.wrap
                                                                                                                                  IntKind.u64
                                                                                                                                  (↑(BitVec.toNat
                                                                                                                                        (BitVec.ofInt
                                                                                                                                            (64 :
                                                                                                                                              Nat)
                                                                                                                                            (IntKind.wrap
                                                                                                                                              IntKind.u64
                                                                                                                                              (IntKind.wrap
                                                                                                                                                  IntKind.u64
                                                                                                                                                  (↑(BitVec.toNat
                                                                                                                                                        (BitVec.ofInt
                                                                                                                                                            (64 :
                                                                                                                                                              Nat)
                                                                                                                                                            (IntKind.wrap
                                                                                                                                                              IntKind.u64
                                                                                                                                                              (IntKind.wrap
                                                                                                                                                                  IntKind.u64
                                                                                                                                                                  (↑(BitVec.toNat
                                                                                                                                                                        (BitVec.ofInt
                                                                                                                                                                            (64 :
                                                                                                                                                                              Nat)
                                                                                                                                                                            (0 :
                                                                                                                                                                              Int) |||
                                                                                                                                                                          BitVec.ofInt
                                                                                                                                                                            (64 :
                                                                                                                                                                              Nat)
                                                                                                                                                                            (IntKind.wrap
                                                                                                                                                                              IntKind.u64
                                                                                                                                                                              (↑(UInt8.toNat
                                                                                                                                                                                    (List.headD
                                                                                                                                                                                      (List.tail
                                                                                                                                                                                        (Array.toList
                                                                                                                                                                                          (ByteArray.data
                                                                                                                                                                                            s)))
                                                                                                                                                                                      (0 :
                                                                                                                                                                                        UInt8))) :
                                                                                                                                                                                Int)))) :
                                                                                                                                                                    Int) *
                                                                                                                                                                (256 :
                                                                                                                                                                  Int))) |||
                                                                                                                                                          BitVec.ofInt
                                                                                                                                                            (64 :
                                                                                                                                                              Nat)
                                                                                                                                                            (IntKind.wrap
                                                                                                                                                              IntKind.u64
                                                                                                                                                              (↑(UInt8.toNat
                                                                                                                                                                    (List.headD
                                                                                                                                                                      (List.tail
                                                                                                                                                                        (List.tail
                                                                                                                                                                          (Array.toList
                                                                                                                                                                            (ByteArray.data
                                                                                                                                                                              s))))
                                                                                                                                                                      (0 :
                                                                                                                                                                        UInt8))) :
                                                                                                                                                                Int)))) :
                                                                                                                                                    Int) *
                                                                                                                                                (256 :
                                                                                                                                                  Int))) |||
                                                                                                                                          BitVec.ofInt
                                                                                                                                            (64 :
                                                                                                                                              Nat)
                                                                                                                                            (IntKind.wrap
                                                                                                                                              IntKind.u64
                                                                                                                                              (↑(UInt8.toNat
                                                                                                                                                    (List.headD
                                                                                                                                                      (List.tail
                                                                                                                                                        (List.tail
                                                                                                                                                          (List.tail
                                                                                                                                                            (Array.toList
                                                                                                                                                              (ByteArray.data
                                                                                                                                                                s)))))
                                                                                                                                                      (0 :
                                                                                                                                                        UInt8))) :
                                                                                                                                                Int)))) :
                                                                                                                                    Int) *
                                                                                                                                (256 :
                                                                                                                                  Int))) |||
                                                                                                                          BitVec.ofInt
                                                                                                                            (64 :
                                                                                                                              Nat)
                                                                                                                            (IntKind.wrap
                                                                                                                              IntKind.u64
                                                                                                                              (↑(UInt8.toNat
                                                                                                                                    (List.headD
                                                                                                                                      (List.tail
                                                                                                                                        (List.tail
                                                                                                                                          (List.tail
                                                                                                                                            (List.tail
                                                                                                                                              (Array.toList
                                                                                                                                                (ByteArray.data
                                                                                                                                                  s))))))
                                                                                                                                      (0 :
                                                                                                                                        UInt8))) :
                                                                                                                                Int)))) :
                                                                                                                    Int) *
                                                                                                                (256 :
                                                                                                                  Int))) |||
                                                                                                          BitVec.ofInt
                                                                                                            64
                                                                                                            (IntKind.wrap
                                                                                                              IntKind.u64
                                                                                                              (↑(UInt8.toNat
                                                                                                                    (List.headD
                                                                                                                      (List.tail
                                                                                                                        (List.tail
                                                                                                                          (List.tail
                                                                                                                            (List.tail
                                                                                                                              (List.tail
                                                                                                                                (Array.toList
                                                                                                                                  (ByteArray.data
                                                                                                                                    s)))))))
                                                                                                                      (0 :
                                                                                                                        UInt8))) :
                                                                                                                Int)))) :
                                                                                                    Int) *
                                                                                                (256 : Int))) |||
                                                                                          BitVec.ofInt 64
                                                                                            (IntKind.wrap IntKind.u64
                                                                                              (↑(UInt8.toNat
                                                                                                    (List.headD
                                                                                                      (List.tail
                                                                                                        (List.tail
                                                                                                          (List.tail
                                                                                                            (List.tail
                                                                                                              (List.tail
                                                                                                                (List.tail
                                                                                                                  (Array.toList
                                                                                                                    (ByteArray.data
                                                                                                                      s))))))))
                                                                                                      (0 : UInt8))) :
                                                                                                Int)))) :
                                                                                    Int) *
                                                                                (256 : Int))) |||
                                                                          BitVec.ofInt 64
                                                                            (IntKind.wrap IntKind.u64
                                                                              (↑(UInt8.toNat
                                                                                    (List.headD
                                                                                      (List.tail
                                                                                        (List.tail
                                                                                          (List.tail
                                                                                            (List.tail
                                                                                              (List.tail
                                                                                                (List.tail
                                                                                                  (List.tail
                                                                                                    (Array.toList
                                                                                                      (ByteArray.data
                                                                                                        s)))))))))
                                                                                      (0 : UInt8))) :
                                                                                Int)))) :
                                                                    Int) *
                                                                (256 : Int))) |||
                                                          BitVec.ofInt 64
                                                            (IntKind.wrap IntKind.u64
                                                              (↑(UInt8.toNat
                                                                    (List.headD
                                                                      (List.tail
                                                                        (List.tail
                                                                          (List.tail
                                                                            (List.tail
                                                                              (List.tail
                                                                                (List.tail
                                                                                  (List.tail
                                                                                    (List.tail
                                                                                      (Array.toList
                                                                                        (ByteArray.data s))))))))))
                                                                      (0 : UInt8))) :
                                                                Int)))) :
                                                    Int) -
                                                (9223372036854775808 : Int)))),
                                        PV.str { data := #[] }]])
                                  true])
                            none))))))))))
        (br
          (IntKind.wrap IntKind.i64
              (IntKind.wrap IntKind.i64
                  (↑(UInt8.toNat (List.headD (Array.toList (ByteArray.data s)) (0 : UInt8))) : Int) -
                (1 : Int)) ==
            (3 : Int))
          (br (decide (ByteArray.size (bl (List.tail (Array.toList (ByteArray.data s)))) ≤ 999999999999))
            (br (decide (Prod.fst (txt (List.tail (Array.toList (ByteArray.data s)))) = []))
              (br (!Prod.snd (Prod.snd (txt (List.tail (Array.toList (ByteArray.data s))))))
                (k Ex.ret (pl 32 [(2, PV.nils), (3, PV.bool false)]) [])
                (br
                  (!mayV
                      (IntKind.wrap IntKind.i64
                        (IntKind.wrap IntKind.i64
                            (↑(UInt8.toNat (List.headD (Array.toList (ByteArray.data s)) (0 : UInt8))) : Int) -
                          (1 : Int)))
                      (0 : Int) (strOf []))
                  (k Ex.ret (pl 32 [(2, PV.nils), (3, PV.bool false)]) [])
                  (br (decide ((List.length es + 1) * 32 ≤ 140737488355328))
                    (k Ex.normal
                      (pl 32
                        [(2, PV.nils), (3, PV.bool false), (4, PV.ptr 0 0),
                          (5, PV.all 1)])
                      [Blk.box 38
                          [PV.str (bl (Prod.fst (Prod.snd (txt (List.tail (Array.toList (ByteArray.data s))))))),
                            PV.bool (Prod.snd (Prod.snd (txt (List.tail (Array.toList (ByteArray.data s))))))],
                        Blk.arr 32
                          (es ++
                            [[PV.int IntKind.i64
                                  (IntKind.wrap IntKind.i64
                                    (IntKind.wrap IntKind.i64
                                        (↑(UInt8.toNat (List.headD (Array.toList (ByteArray.data s)) (0 : UInt8))) :
                                          Int) -
                                      (1 : Int))),
                                PV.int IntKind.i64 (0 : Int), PV.str (strOf [])]])
                          true])
                    none)))
              (br (!Prod.snd (Prod.snd (txt (List.tail (Array.toList (ByteArray.data s))))))
                (k Ex.ret (pl 32 [(2, PV.nils), (3, PV.bool false)]) [])
                (br
                  (!mayV
                      (IntKind.wrap IntKind.i64
                        (IntKind.wrap IntKind.i64
                            (↑(UInt8.toNat (List.headD (Array.toList (ByteArray.data s)) (0 : UInt8))) : Int) -
                          (1 : Int)))
                      (0 : Int) (strOf (bc (Prod.fst (txt (List.tail (Array.toList (ByteArray.data s))))))))
                  (k Ex.ret (pl 32 [(2, PV.nils), (3, PV.bool false)]) [])
                  (br (decide ((List.length es + 1) * 32 ≤ 140737488355328))
                    (k Ex.normal
                      (pl 32
                        [(2, PV.nils), (3, PV.bool false), (4, PV.ptr 0 0),
                          (5, PV.all 1)])
                      [Blk.box 38
                          [PV.str (bl (Prod.fst (Prod.snd (txt (List.tail (Array.toList (ByteArray.data s))))))),
                            PV.bool (Prod.snd (Prod.snd (txt (List.tail (Array.toList (ByteArray.data s))))))],
                        Blk.arr 32
                          (es ++
                            [[PV.int IntKind.i64
                                  (IntKind.wrap IntKind.i64
                                    (IntKind.wrap IntKind.i64
                                        (↑(UInt8.toNat (List.headD (Array.toList (ByteArray.data s)) (0 : UInt8))) :
                                          Int) -
                                      (1 : Int))),
                                PV.int IntKind.i64 (0 : Int),
                                PV.str (strOf (bc (Prod.fst (txt (List.tail (Array.toList (ByteArray.data s)))))))]])
                          true])
                    none))))
            none)
          (br
            (!mayV
                (IntKind.wrap IntKind.i64
                  (IntKind.wrap IntKind.i64
                      (↑(UInt8.toNat (List.headD (Array.toList (ByteArray.data s)) (0 : UInt8))) : Int) -
                    (1 : Int)))
                (0 : Int) { data := #[] })
            (k Ex.ret (pl 32 [(2, PV.nils), (3, PV.bool false)]) [])
            (br (decide ((List.length es + 1) * 32 ≤ 140737488355328))
              (k Ex.normal
                (pl 32
                  [(2, PV.nils), (3, PV.bool false), (4, PV.ptr 0 0),
                    (5, PV.all 1)])
                [Blk.box 38 [PV.str (bl (List.tail (Array.toList (ByteArray.data s)))), PV.bool true],
                  Blk.arr 32
                    (es ++
                      [[PV.int IntKind.i64
                            (IntKind.wrap IntKind.i64
                              (IntKind.wrap IntKind.i64
                                  (↑(UInt8.toNat (List.headD (Array.toList (ByteArray.data s)) (0 : UInt8))) : Int) -
                                (1 : Int))),
                          PV.int IntKind.i64 (0 : Int), PV.str { data := #[] }]])
                    true])
              none))))))
  (k (Ex.exit 0) (pl 32 [(5, PV.all 0)]) [Blk.arr 32 es true]) := by
  rw [← callF_eq, ← runF_eq]; kernel_rfl

end Go.Proofs.Ytnnogckknlgeiaa
end

section
/- What bytes are, as values: the plain law. -/
set_option linter.unusedVariables false
set_option linter.unusedSimpArgs false
namespace Go.Proofs.Ytnnogckknlgeiaa
open Go.Pu

/-- a number's next byte -/
def stp (n : Int) (b : UInt8) : Int := IntKind.u64.wrap ((((BitVec.ofInt 64 (IntKind.u64.wrap (n * 256))) ||| (BitVec.ofInt 64 (IntKind.u64.wrap ((b.toNat : Nat) : Int)))).toNat : Nat) : Int)

theorem stp_eq {n : Int} {b : UInt8} (h0 : 0 ≤ n) (h1 : n < 72057594037927936) : stp n b = n * 256 + (b.toNat : Int) := by
  have hb : b.toNat < 256 := by
    have := UInt8.toNat_lt b
    omega
  obtain ⟨m, rfl⟩ := Int.eq_ofNat_of_zero_le h0
  unfold stp
  have e1 : IntKind.u64.wrap ((m : Int) * 256) = ((m * 256 : Nat) : Int) := by rw [IntKind.wrap_u64]; omega
  have e2 : IntKind.u64.wrap ((b.toNat : Nat) : Int) = ((b.toNat : Nat) : Int) := by rw [IntKind.wrap_u64]; omega
  rw [e1, e2, BitVec.ofInt_natCast, BitVec.ofInt_natCast, BitVec.toNat_or, BitVec.toNat_ofNat, BitVec.toNat_ofNat, Nat.mod_eq_of_lt (by omega), Nat.mod_eq_of_lt (by omega)]
  have e3 : (m * 256 ||| b.toNat) = m * 256 + b.toNat := by
    have := Nat.shiftLeft_add_eq_or_of_lt (i := 8) (b := b.toNat) hb m
    rw [Nat.shiftLeft_eq] at this
    exact this.symm
  rw [e3, IntKind.wrap_u64]
  omega

def num (l : List UInt8) : Int := IntKind.i64.wrap (IntKind.u64.wrap (l.foldl stp 0 - 9223372036854775808))

/-- a kind, out of a byte -/
def kd (c : UInt8) : Int := IntKind.i64.wrap (IntKind.i64.wrap ((c.toNat : Nat) : Int) - 1)

theorem kd_eq (c : UInt8) : kd c = (c.toNat : Int) - 1 := by
  have hb : c.toNat < 256 := by have := UInt8.toNat_lt c; omega
  unfold kd
  rw [wrap_i64 (by rw [wrap_i64 (by omega) (by omega)]; omega) (by rw [wrap_i64 (by omega) (by omega)]; omega), wrap_i64 (by omega) (by omega)]

def valE (v w : Int) (t : List UInt8) : List PV := [.int .i64 v, .int .i64 w, .str (bl t)]

def sure (v w : Int) (t r : List UInt8) : Option (List PV × List UInt8) := if mayV v w (bl t) = true then some (valE v w t, r) else none

/-- the first value that bytes are, and what is left -/
def decV : List UInt8 → Option (List PV × List UInt8)
  | [] => none
  | c :: l =>
    if kd c = 1 then (match l with | [] => none | b :: r => sure (kd c) (IntKind.i64.wrap ((b.toNat : Nat) : Int)) [] r)
    else if kd c = 2 then (match l with | b0 :: b1 :: b2 :: b3 :: b4 :: b5 :: b6 :: b7 :: r => sure (kd c) (num [b0, b1, b2, b3, b4, b5, b6, b7]) [] r | _ => none)
    else if kd c = 3 then (if (txt l).2.2 = true then sure (kd c) 0 (txt l).1 (txt l).2.1 else none)
    else sure (kd c) 0 [] l

theorem fold8 (b0 b1 b2 b3 b4 b5 b6 b7 : UInt8) : [b0, b1, b2, b3, b4, b5, b6, b7].foldl stp 0 =
    ((((((((b0.toNat : Int) * 256 + b1.toNat) * 256 + b2.toNat) * 256 + b3.toNat) * 256 + b4.toNat) * 256 + b5.toNat) * 256 + b6.toNat) * 256 + b7.toNat) := by
  have h0 : b0.toNat < 256 := UInt8.toNat_lt b0
  have h1 : b1.toNat < 256 := UInt8.toNat_lt b1
  have h2 : b2.toNat < 256 := UInt8.toNat_lt b2
  have h3 : b3.toNat < 256 := UInt8.toNat_lt b3
  have h4 : b4.toNat < 256 := UInt8.toNat_lt b4
  have h5 : b5.toNat < 256 := UInt8.toNat_lt b5
  have h6 : b6.toNat < 256 := UInt8.toNat_lt b6
  have h7 : b7.toNat < 256 := UInt8.toNat_lt b7
  simp only [List.foldl_cons, List.foldl_nil]
  rw [stp_eq (n := 0) (by omega) (by omega)]
  rw [stp_eq (b := b1) (by omega) (by omega)]
  rw [stp_eq (b := b2) (by omega) (by omega)]
  rw [stp_eq (b := b3) (by omega) (by omega)]
  rw [stp_eq (b := b4) (by omega) (by omega)]
  rw [stp_eq (b := b5) (by omega) (by omega)]
  rw [stp_eq (b := b6) (by omega) (by omega)]
  rw [stp_eq (b := b7) (by omega) (by omega)]
  omega

theorem num_num8 {w : Int} (h : -9223372036854775808 ≤ w ∧ w < 9223372036854775808) : num (num8 w) = w := by
  unfold num num8
  rw [fold8, u8_nat, u8_nat, u8_nat, u8_nat, u8_nat, u8_nat, u8_nat, u8_nat]
  have n1 : N64 w = w + 9223372036854775808 := by unfold N64; omega
  rw [n1, IntKind.wrap_u64, IntKind.wrap_i64]
  omega

theorem num8_num (b0 b1 b2 b3 b4 b5 b6 b7 : UInt8) : num8 (num [b0, b1, b2, b3, b4, b5, b6, b7]) = [b0, b1, b2, b3, b4, b5, b6, b7] := by
  have h0 : b0.toNat < 256 := UInt8.toNat_lt b0
  have h1 : b1.toNat < 256 := UInt8.toNat_lt b1
  have h2 : b2.toNat < 256 := UInt8.toNat_lt b2
  have h3 : b3.toNat < 256 := UInt8.toNat_lt b3
  have h4 : b4.toNat < 256 := UInt8.toNat_lt b4
  have h5 : b5.toNat < 256 := UInt8.toNat_lt b5
  have h6 : b6.toNat < 256 := UInt8.toNat_lt b6
  have h7 : b7.toNat < 256 := UInt8.toNat_lt b7
  have n1 : N64 (num [b0, b1, b2, b3, b4, b5, b6, b7]) = ((((((((b0.toNat : Int) * 256 + b1.toNat) * 256 + b2.toNat) * 256 + b3.toNat) * 256 + b4.toNat) * 256 + b5.toNat) * 256 + b6.toNat) * 256 + b7.toNat) := by
    unfold num N64
    rw [fold8, IntKind.wrap_u64, IntKind.wrap_i64]
    omega
  unfold num8
  rw [n1]
  have e : ∀ (b : UInt8) (x : Int), x % 256 = (b.toNat : Int) → u8 x = b := fun b x h => by
    apply UInt8.toNat_inj.1
    have := u8_nat x
    omega
  rw [e b0 _ (by omega), e b1 _ (by omega), e b2 _ (by omega), e b3 _ (by omega), e b4 _ (by omega), e b5 _ (by omega), e b6 _ (by omega), e b7 _ (by omega)]

theorem num_wf (l : List UInt8) : (Lit.int .i64 (num l)).wf = true := by
  have h : -9223372036854775808 ≤ num l ∧ num l < 9223372036854775808 := by
    unfold num; rw [IntKind.wrap_i64]; omega
  simp only [Lit.wf, IntKind.min, IntKind.max, IntKind.bits, IntKind.signed, Bool.and_eq_true, decide_eq_true_eq]
  simp
  omega

theorem txt_esc (r : List UInt8) : ∀ t : List UInt8, txt (escB t ++ 0 :: 1 :: r) = (t, r, true)
  | [] => by simp [escB, txt_more]
  | b :: t => by
    have ih := txt_esc r t
    by_cases hb : b = 0
    · subst hb
      simp only [escB, if_true, List.cons_append]
      rw [txt_more, if_pos rfl, if_neg (by decide), if_pos rfl, ih]
    · simp only [escB, if_neg hb, List.cons_append]
      obtain ⟨c, q, hq⟩ : ∃ c q, escB t ++ 0 :: 1 :: r = c :: q := by
        cases h : escB t with
        | nil => exact ⟨0, 1 :: r, by simp⟩
        | cons c q => exact ⟨c, q ++ 0 :: 1 :: r, by simp⟩
      rw [hq] at ih ⊢
      rw [txt_more, if_neg hb, ih]

theorem txt_back : ∀ (n : Nat) (l : List UInt8), l.length ≤ n → (txt l).2.2 = true → l = escB (txt l).1 ++ 0 :: 1 :: (txt l).2.1
  | _, [], _, h => by simp [txt] at h
  | _, [b], _, h => by
    simp only [txt] at h
    split at h <;> cases h
  | 0, b :: c :: r, hn, _ => by simp at hn
  | n + 1, b :: c :: r, hn, h => by
    rw [txt_more] at h ⊢
    by_cases hb : b = 0
    · rw [if_pos hb] at h ⊢
      subst hb
      by_cases hc : c = 1
      · rw [if_pos hc]; subst hc; simp [escB]
      · rw [if_neg hc] at h ⊢
        by_cases hc2 : c = 255
        · rw [if_pos hc2] at h ⊢
          subst hc2
          have := txt_back n r (by simp at hn; omega) h
          simp only [escB, if_true, List.cons_append]
          rw [← this]
        · rw [if_neg hc2] at h; cases h
    · rw [if_neg hb] at h ⊢
      have := txt_back n (c :: r) (by simp at hn ⊢; omega) h
      simp only [escB, if_neg hb, List.cons_append]
      rw [← this]

theorem bl_back (t : List UInt8) : (bl t).data.toList = t := rfl

theorem u8_back (c : UInt8) : u8 (kd c + 1) = c := by
  apply UInt8.toNat_inj.1
  have h1 := u8_nat (kd c + 1)
  have h2 := kd_eq c
  have h3 : c.toNat < 256 := UInt8.toNat_lt c
  omega

theorem kd_u8 {v : Int} (h : 0 ≤ v ∧ v ≤ 3) : kd (u8 (v + 1)) = v := by
  rw [kd_eq, u8_nat]; omega

theorem wf_small {v : Int} (h : 0 ≤ v ∧ v ≤ 255) : (Lit.int .i64 v).wf = true := by
  simp only [Lit.wf, IntKind.min, IntKind.max, IntKind.bits, IntKind.signed, Bool.and_eq_true, decide_eq_true_eq]
  simp
  omega

/-- a value that may be, and what is behind its bytes, are read -/
theorem decV_one {e : List PV} (he : isV e) (me : mayE e = true) (r : List UInt8) : decV (oneE e ++ r) = some (e, r) := by
  obtain ⟨v, w, s, rfl, -, hw, -⟩ := he
  have me : mayV v w s = true := me
  have hE : oneE [.int .i64 v, .int .i64 w, .str s] = oneB v w s.data.toList := rfl
  have hv : 0 ≤ v ∧ v ≤ 3 := by rcases may_cases me with ⟨h, _⟩ | ⟨h, _⟩ | ⟨h, _⟩ | ⟨h, _⟩ <;> omega
  have hk := kd_u8 hv
  have hb : bl s.data.toList = s := bl_data s
  rw [hE]
  unfold oneB
  rw [List.cons_append]
  unfold decV
  dsimp only
  rw [hk]
  rcases may_cases me with ⟨rfl, rfl, hs⟩ | ⟨rfl, hw0, hs⟩ | ⟨rfl, hs⟩ | ⟨rfl, rfl, hs⟩
  · rw [hs] at hb
    rw [← hb] at me ⊢
    rw [if_neg (by decide), if_neg (by decide), if_neg (by decide), if_neg (by decide), if_neg (by decide), if_neg (by decide)]
    unfold sure
    rw [if_pos me]; rfl
  · rw [hs] at hb
    rw [← hb] at me ⊢
    rw [if_pos rfl, if_pos rfl]
    unfold sure
    dsimp only [List.cons_append]
    have : IntKind.i64.wrap ((u8 w).toNat : Int) = w := by rw [u8_nat, wrap_i64 (by omega) (by omega)]; omega
    rw [this, if_pos me]; rfl
  · rw [hs] at hb
    rw [← hb] at me ⊢
    simp only [show ¬ ((2 : Int) = 1) by decide, if_false, if_true]
    have := num_num8 (wf64 hw)
    unfold num8 at this ⊢
    dsimp only [List.cons_append, List.nil_append]
    rw [this]
    unfold sure
    rw [if_pos me]; rfl
  · simp only [show ¬ ((3 : Int) = 1) by decide, show ¬ ((3 : Int) = 2) by decide, if_false, if_true]
    have : escB s.data.toList ++ [0, 1] ++ r = escB s.data.toList ++ 0 :: 1 :: r := by simp
    rw [this, txt_esc]
    simp only [if_true]
    unfold sure
    rw [hb, if_pos me]
    unfold valE
    rw [hb]

theorem mayV_kd {v w : Int} {t : List UInt8} (h : mayV v w (bl t) = true) : t.length ≤ 1000 := by
  have e := bl_back t
  have e2 := bl_size t
  rcases may_cases h with ⟨_, _, h⟩ | ⟨_, _, h⟩ | ⟨_, h⟩ | ⟨_, _, h⟩
  · rw [e] at h; subst h; simp
  · rw [e] at h; subst h; simp
  · rw [e] at h; subst h; simp
  · omega

theorem isV_val {v w : Int} {t : List UInt8} (hv : (Lit.int .i64 v).wf = true) (hw : (Lit.int .i64 w).wf = true) (h : mayV v w (bl t) = true) : isV (valE v w t) := by
  have := mayV_kd h
  refine ⟨v, w, bl t, rfl, hv, hw, ?_⟩
  rw [bl_size]; unfold reachBytes; omega

theorem kd_wf (c : UInt8) : (Lit.int .i64 (kd c)).wf = true := by
  have h2 := kd_eq c
  have h3 : c.toNat < 256 := UInt8.toNat_lt c
  simp only [Lit.wf, IntKind.min, IntKind.max, IntKind.bits, IntKind.signed, Bool.and_eq_true, decide_eq_true_eq]
  simp
  omega

/-- what is read is a value that may be, its bytes, and what is left -/
theorem decV_back {l : List UInt8} {e : List PV} {r : List UInt8} (h : decV l = some (e, r)) : isV e ∧ mayE e = true ∧ l = oneE e ++ r := by
  have su : ∀ {v w t r'}, sure v w t r' = some (e, r) → (Lit.int .i64 v).wf = true → (Lit.int .i64 w).wf = true → isV e ∧ mayE e = true ∧ e = valE v w t ∧ r = r' := by
    intro v w t r' h hv hw
    unfold sure at h
    split at h
    · rename_i hm
      cases h
      exact ⟨isV_val hv hw hm, hm, rfl, rfl⟩
    · cases h
  have oe : ∀ {v w t}, oneE (valE v w t) = oneB v w t := fun {v w t} => by
    show oneB v w (bl t).data.toList = _
    rw [bl_back]
  match l, h with
  | c :: l, h =>
    simp only [decV] at h
    have hu := u8_back c
    split at h
    · rename_i hk
      match l, h with
      | b :: r', h =>
        have hb : b.toNat < 256 := UInt8.toNat_lt b
        have hbw : IntKind.i64.wrap ((b.toNat : Nat) : Int) = b.toNat := wrap_i64 (by omega) (by omega)
        obtain ⟨g1, g2, rfl, rfl⟩ := su h (kd_wf c) (by rw [hbw]; exact wf_small (by omega))
        refine ⟨g1, g2, ?_⟩
        rw [oe]
        unfold oneB
        rw [hu, if_pos hk, hbw]
        have : u8 ((b.toNat : Nat) : Int) = b := by
          apply UInt8.toNat_inj.1
          have := u8_nat ((b.toNat : Nat) : Int)
          omega
        rw [this]; rfl
    · rename_i hk1
      split at h
      · rename_i hk
        split at h
        · obtain ⟨g1, g2, rfl, rfl⟩ := su h (kd_wf c) (num_wf _)
          refine ⟨g1, g2, ?_⟩
          rw [oe]
          unfold oneB
          rw [hu, if_neg hk1, if_pos hk, num8_num]; rfl
        · cases h
      · rename_i hk2
        split at h
        · rename_i hk
          split at h
          · rename_i ht
            obtain ⟨g1, g2, rfl, rfl⟩ := su h (kd_wf c) (wf_small (by omega))
            refine ⟨g1, g2, ?_⟩
            rw [oe]
            unfold oneB
            rw [hu, if_neg hk1, if_neg hk2, if_pos hk]
            have := txt_back l.length l (Nat.le_refl _) ht
            rw [List.cons_append, List.append_assoc]
            congr 1
          · cases h
        · rename_i hk3
          obtain ⟨g1, g2, rfl, rfl⟩ := su h (kd_wf c) (wf_small (by omega))
          refine ⟨g1, g2, ?_⟩
          rw [oe]
          unfold oneB
          rw [hu, if_neg hk1, if_neg hk2, if_neg hk3]; rfl

end Go.Proofs.Ytnnogckknlgeiaa
end

section
/- The Key program: decoding, told. -/
set_option linter.unusedVariables false
set_option linter.unusedSimpArgs false
namespace Go.Proofs.Ytnnogckknlgeiaa
open Go.Pu

/-- what bytes are as a list of values, if they are any -/
noncomputable def dec (l : List UInt8) : Option (List (List PV)) := by
  classical exact if h : ∃ es, okL es ∧ encB es = l then some (Classical.choose h) else none

theorem cmpE_zero {e f : List PV} (he : isV e) (hf : isV f) (h : cmpE e f = 0) : e = f := by
  obtain ⟨v, w, s, rfl, -, -, -⟩ := he
  obtain ⟨v', w', s', rfl, -, -, -⟩ := hf
  have h : cmpV v w s v' w' s' = 0 := h
  unfold cmpV at h
  by_cases h1 : cmpI v v' = 0
  · rw [if_neg (by simp [h1])] at h
    by_cases h2 : cmpI w w' = 0
    · rw [if_neg (by simp [h2])] at h
      rw [cmpI_zero.1 h1, cmpI_zero.1 h2, bl_inj (compareBytes_zero.1 h)]
    · rw [if_pos h2] at h; exact absurd h h2
  · rw [if_pos h1] at h; exact absurd h h1

theorem cmpL_zero : ∀ {xs ys : List (List PV)}, (∀ e ∈ xs, isV e) → (∀ e ∈ ys, isV e) → cmpL xs ys = 0 → xs = ys
  | [], [], _, _, _ => rfl
  | [], _ :: _, _, _, h => by cases h
  | _ :: _, [], _, _, h => by cases h
  | x :: xs, y :: ys, hx, hy, h => by
    simp only [cmpL] at h
    split at h
    · rename_i h1
      rw [cmpE_zero (hx x (by simp)) (hy y (by simp)) h1, cmpL_zero (fun e he => hx e (by simp [he])) (fun e he => hy e (by simp [he])) h]
    · rename_i h1; exact absurd h h1

theorem enc_inj {xs ys : List (List PV)} (hx : okL xs) (hy : okL ys) (h : encB xs = encB ys) : xs = ys := by
  have := enc_cmp hx hy
  rw [h] at this
  exact cmpL_zero (fun e he => (hx e he).1) (fun e he => (hy e he).1) (this.symm.trans (compareBytes_zero.2 rfl))

theorem dec_iff {l : List UInt8} {es : List (List PV)} : dec l = some es ↔ okL es ∧ encB es = l := by
  unfold dec
  constructor
  · intro h
    split at h
    · rename_i hx
      cases h
      exact Classical.choose_spec hx
    · cases h
  · rintro ⟨h1, h2⟩
    have hx : ∃ es, okL es ∧ encB es = l := ⟨es, h1, h2⟩
    rw [dif_pos hx]
    have := Classical.choose_spec hx
    rw [enc_inj this.1 h1 (this.2.trans h2.symm)]

theorem dec_none {l : List UInt8} : dec l = none ↔ ¬ ∃ es, okL es ∧ encB es = l := by
  constructor
  · rintro h ⟨es, h1⟩
    rw [dec_iff.2 h1] at h; cases h
  · intro h
    unfold dec
    rw [dif_neg h]

theorem dec_nil : dec [] = some [] := dec_iff.2 ⟨fun e he => by simp at he, rfl⟩

theorem encB_cons (e : List PV) (es : List (List PV)) : encB (e :: es) = oneE e ++ encB es := by simp [encB]

theorem dec_step {l : List UInt8} (hl : l ≠ []) : dec l = match decV l with | none => none | some (e, r) => (dec r).map (e :: ·) := by
  cases h : decV l with
  | none =>
    dsimp only
    refine dec_none.2 ?_
    rintro ⟨es, h1, h2⟩
    cases es with
    | nil => exact hl h2.symm
    | cons e es =>
      have he := h1 e (by simp)
      rw [encB_cons] at h2
      have := decV_one he.1 he.2 (encB es)
      rw [h2, h] at this
      cases this
  | some q =>
    obtain ⟨e, r⟩ := q
    obtain ⟨g1, g2, rfl⟩ := decV_back h
    dsimp only
    cases hr : dec r with
    | none =>
      refine dec_none.2 ?_
      rintro ⟨es, h1, h2⟩
      cases es with
      | nil => exact hl h2.symm
      | cons f es =>
        have hf := h1 f (by simp)
        rw [encB_cons] at h2
        have := decV_one hf.1 hf.2 (encB es)
        rw [h2, h] at this
        cases this
        exact dec_none.1 hr ⟨es, fun e he => h1 e (by simp [he]), rfl⟩
    | some es =>
      obtain ⟨h1, h2⟩ := dec_iff.1 hr
      refine dec_iff.2 ⟨?_, by rw [encB_cons, h2]⟩
      intro f hf
      rcases List.mem_cons.1 hf with rfl | hf
      · exact ⟨g1, g2⟩
      · exact h1 f hf

theorem decV_less {l : List UInt8} {e : List PV} {r : List UInt8} (h : decV l = some (e, r)) : r.length < l.length := by
  obtain ⟨_, _, rfl⟩ := decV_back h
  obtain ⟨b, q, hq⟩ := oneE_ne e
  rw [hq]; simp; omega

abbrev TD := List UInt8 × List (List PV)

def enc10 (σ : TD) : List PV × Heap :=
  if σ.2 = [] then (pl 32 [(2, .nils), (3, .bool false), (4, .ptr 0 0), (5, .nils)], [rdr σ.1 true]) else (pl 32 [(2, .nils), (3, .bool false), (4, .ptr 0 0), (5, .all 1)], [rdr σ.1 true, .arr 32 σ.2 true])

def fin10 (es : List (List PV)) : Out := if es = [] then (.exit 0, pl 32 [(5, .nils)], []) else (.exit 0, pl 32 [(5, .all 0)], [.arr 32 es true])
def ret10 : Out := (.ret, pl 32 [(2, .nils), (3, .bool false)], [])

def rnd10 (σ : TD) : Out := match σ.1 with
  | [] => fin10 σ.2
  | c :: t => match decV (c :: t) with
    | none => ret10
    | some q => (.normal, enc10 (q.2, σ.2 ++ [q.1]))

theorem enc10_ne {l : List UInt8} {acc : List (List PV)} (e : List PV) : enc10 (l, acc ++ [e]) = (pl 32 [(2, .nils), (3, .bool false), (4, .ptr 0 0), (5, .all 1)], [rdr l true, .arr 32 (acc ++ [e]) true]) := by
  unfold enc10
  rw [if_neg (by simp)]

theorem round10 (l : List UInt8) (acc : List (List PV)) (hl : l.length ≤ 100000000) (ha : acc.length ≤ 100000000) : runK br Try.prog (callK br Try.prog X6 M0 L3 (LS5 br) 24) M0 (fun _ => none) 24 0 (L3 10) (bodyOf Try.prog 10 3) (enc10 (l, acc)).1 (enc10 (l, acc)).2 (idc 0 (L3 10) 3) = some (rnd10 (l, acc)) := by
  by_cases h0 : acc = []
  · subst h0
    have en : ∀ e r, enc10 (r, [] ++ [e]) = (pl 32 [(2, .nils), (3, .bool false), (4, .ptr 0 0), (5, .all 1)], [rdr r true, .arr 32 [e] true]) := fun e r => enc10_ne e
    refine (rd10z 0 (bl l) (fun e ts h => some (e, ts, h))).trans ?_

    match l with
    | [] => exact (if_neg (by rw [bl_toList]; decide)).trans rfl
    | c :: t =>
      refine (if_pos (by rw [bl_toList]; simp)).trans ((if_neg Bool.false_ne_true).trans ?_)
      simp only [rnd10]
      have ret : ∀ {v w : Int} {x r : List UInt8}, mayV v w (bl x) = false → sure v w x r = none := fun h => if_neg (by rw [h]; decide)
      have fine : ∀ {v w : Int} {x r : List UInt8}, mayV v w (bl x) = true → sure v w x r = some (valE v w x, r) := fun h => if_pos h
      by_cases k1 : kd c = 1
      · refine (if_pos (show (kd c == 1) = true from beq_iff_eq.2 k1)).trans ?_
        match t with
        | [] =>
          have e : decV [c] = none := (if_pos k1).trans rfl
          rw [e]; exact (if_pos rfl).trans rfl
        | b :: r =>
          have e : decV (c :: b :: r) = sure (kd c) (IntKind.i64.wrap ((b.toNat : Nat) : Int)) [] r := (if_pos k1).trans rfl
          rw [e]
          refine (if_neg Bool.false_ne_true).trans ?_
          cases hm : mayV (kd c) (IntKind.i64.wrap ((b.toNat : Nat) : Int)) (bl []) with
          | false => rw [ret hm]; exact (if_pos (by rw [Bool.not_eq_true']; exact hm)).trans rfl
          | true => rw [fine hm]; exact (if_neg (by rw [Bool.not_eq_true', Bool.not_eq_false]; exact hm)).trans (rfl)
      · refine (if_neg (show ¬ (kd c == 1) = true from fun h => k1 (beq_iff_eq.1 h))).trans ?_
        by_cases k2 : kd c = 2
        · refine (if_pos (show (kd c == 2) = true from beq_iff_eq.2 k2)).trans ?_
          match t with
          | [] =>
            have e : decV [c] = none := (if_neg k1).trans ((if_pos k2).trans rfl)
            rw [e]; exact (if_pos rfl).trans rfl
          | [b0] =>
            have e : decV [c, b0] = none := (if_neg k1).trans ((if_pos k2).trans rfl)
            rw [e]; exact (if_neg Bool.false_ne_true).trans ((if_pos rfl).trans rfl)
          | [b0, b1] =>
            have e : decV [c, b0, b1] = none := (if_neg k1).trans ((if_pos k2).trans rfl)
            rw [e]; exact (if_neg Bool.false_ne_true).trans ((if_neg Bool.false_ne_true).trans ((if_pos rfl).trans rfl))
          | [b0, b1, b2] =>
            have e : decV [c, b0, b1, b2] = none := (if_neg k1).trans ((if_pos k2).trans rfl)
            rw [e]; exact (if_neg Bool.false_ne_true).trans ((if_neg Bool.false_ne_true).trans ((if_neg Bool.false_ne_true).trans ((if_pos rfl).trans rfl)))
          | [b0, b1, b2, b3] =>
            have e : decV [c, b0, b1, b2, b3] = none := (if_neg k1).trans ((if_pos k2).trans rfl)
            rw [e]; exact (if_neg Bool.false_ne_true).trans ((if_neg Bool.false_ne_true).trans ((if_neg Bool.false_ne_true).trans ((if_neg Bool.false_ne_true).trans ((if_pos rfl).trans rfl))))
          | [b0, b1, b2, b3, b4] =>
            have e : decV [c, b0, b1, b2, b3, b4] = none := (if_neg k1).trans ((if_pos k2).trans rfl)
            rw [e]; exact (if_neg Bool.false_ne_true).trans ((if_neg Bool.false_ne_true).trans ((if_neg Bool.false_ne_true).trans ((if_neg Bool.false_ne_true).trans ((if_neg Bool.false_ne_true).trans ((if_pos rfl).trans rfl)))))
          | [b0, b1, b2, b3, b4, b5] =>
            have e : decV [c, b0, b1, b2, b3, b4, b5] = none := (if_neg k1).trans ((if_pos k2).trans rfl)
            rw [e]; exact (if_neg Bool.false_ne_true).trans ((if_neg Bool.false_ne_true).trans ((if_neg Bool.false_ne_true).trans ((if_neg Bool.false_ne_true).trans ((if_neg Bool.false_ne_true).trans ((if_neg Bool.false_ne_true).trans ((if_pos rfl).trans rfl))))))
          | [b0, b1, b2, b3, b4, b5, b6] =>
            have e : decV [c, b0, b1, b2, b3, b4, b5, b6] = none := (if_neg k1).trans ((if_pos k2).trans rfl)
            rw [e]; exact (if_neg Bool.false_ne_true).trans ((if_neg Bool.false_ne_true).trans ((if_neg Bool.false_ne_true).trans ((if_neg Bool.false_ne_true).trans ((if_neg Bool.false_ne_true).trans ((if_neg Bool.false_ne_true).trans ((if_neg Bool.false_ne_true).trans ((if_pos rfl).trans rfl)))))))
          | b0 :: b1 :: b2 :: b3 :: b4 :: b5 :: b6 :: b7 :: r =>
            have e : decV (c :: b0 :: b1 :: b2 :: b3 :: b4 :: b5 :: b6 :: b7 :: r) = sure (kd c) (num [b0, b1, b2, b3, b4, b5, b6, b7]) [] r := (if_neg k1).trans ((if_pos k2).trans rfl)
            rw [e]
            refine (if_neg Bool.false_ne_true).trans ((if_neg Bool.false_ne_true).trans ((if_neg Bool.false_ne_true).trans ((if_neg Bool.false_ne_true).trans ((if_neg Bool.false_ne_true).trans ((if_neg Bool.false_ne_true).trans ((if_neg Bool.false_ne_true).trans ((if_neg Bool.false_ne_true).trans ?_)))))))
            cases hm : mayV (kd c) (num [b0, b1, b2, b3, b4, b5, b6, b7]) (bl []) with
            | false => rw [ret hm]; exact (if_pos (by rw [Bool.not_eq_true']; exact hm)).trans rfl
            | true => rw [fine hm]; exact (if_neg (by rw [Bool.not_eq_true', Bool.not_eq_false]; exact hm)).trans (rfl)
        · refine (if_neg (show ¬ (kd c == 2) = true from fun h => k2 (beq_iff_eq.1 h))).trans ?_
          by_cases k3 : kd c = 3
          · refine (if_pos (show (kd c == 3) = true from beq_iff_eq.2 k3)).trans ((if_pos (decide_eq_true (by show (bl t).size ≤ 999999999999; rw [bl_size]; simp only [List.length_cons] at hl; omega))).trans ?_)
            have e : decV (c :: t) = if (txt t).2.2 = true then sure (kd c) 0 (txt t).1 (txt t).2.1 else none := (if_neg k1).trans ((if_neg k2).trans ((if_pos k3).trans rfl))
            rw [e]
            by_cases he : (txt t).1 = []
            · refine (if_pos (decide_eq_true he)).trans ?_
              cases ho : (txt t).2.2 with
              | false => exact (if_pos (by rw [Bool.not_eq_true']; exact ho)).trans rfl
              | true =>
                refine (if_neg (by rw [Bool.not_eq_true', Bool.not_eq_false]; exact ho)).trans ?_
                rw [he]
                simp only [if_true]
                cases hm : mayV (kd c) 0 (bl []) with
                | false => rw [ret hm]; exact (if_pos (by rw [Bool.not_eq_true']; exact hm)).trans rfl
                | true =>
                  rw [fine hm]
                  refine (if_neg (by rw [Bool.not_eq_true', Bool.not_eq_false]; exact hm)).trans (?_)
                  rw [show (bl (c :: t)).data.toList.tail = t from rfl, ho]; rfl
            · refine (if_neg (fun h => he (of_decide_eq_true h))).trans ?_
              cases ho : (txt t).2.2 with
              | false => exact (if_pos (by rw [Bool.not_eq_true']; exact ho)).trans rfl
              | true =>
                refine (if_neg (by rw [Bool.not_eq_true', Bool.not_eq_false]; exact ho)).trans ?_
                simp only [if_true]
                cases hm : mayV (kd c) 0 (bl (txt t).1) with
                | false => rw [ret hm]; exact (if_pos (by rw [Bool.not_eq_true', strOf_bc]; exact hm)).trans rfl
                | true =>
                  rw [fine hm]
                  refine (if_neg (by rw [Bool.not_eq_true', Bool.not_eq_false, strOf_bc]; exact hm)).trans (?_)
                  rw [show (bl (c :: t)).data.toList.tail = t from rfl, ho, strOf_bc]; rfl
          · refine (if_neg (show ¬ (kd c == 3) = true from fun h => k3 (beq_iff_eq.1 h))).trans ?_
            have e : decV (c :: t) = sure (kd c) 0 [] t := (if_neg k1).trans ((if_neg k2).trans ((if_neg k3).trans rfl))
            rw [e]
            cases hm : mayV (kd c) 0 (bl []) with
            | false => rw [ret hm]; exact (if_pos (by rw [Bool.not_eq_true']; exact hm)).trans rfl
            | true => rw [fine hm]; exact (if_neg (by rw [Bool.not_eq_true', Bool.not_eq_false]; exact hm)).trans (rfl)
  · have hd : decide ((acc.length + 1) * 32 ≤ 140737488355328) = true := decide_eq_true (by omega)
    have f0 : fin10 acc = (.exit 0, pl 32 [(5, .all 0)], [.arr 32 acc true]) := if_neg h0
    have e0 : enc10 (l, acc) = (pl 32 [(2, .nils), (3, .bool false), (4, .ptr 0 0), (5, .all 1)], [rdr l true, .arr 32 acc true]) := if_neg h0
    rw [e0]
    have en : ∀ e r, some (Ex.normal, pl 32 [(2, .nils), (3, .bool false), (4, .ptr 0 0), (5, .all 1)], [rdr r true, .arr 32 (acc ++ [e]) true]) = some (Ex.normal, enc10 (r, acc ++ [e])) := fun e r => by rw [enc10_ne]
    refine (rd10 0 (bl l) acc (fun e ts h => some (e, ts, h))).trans ?_

    match l with
    | [] => exact (if_neg (by rw [bl_toList]; decide)).trans (by simp only [rnd10]; rw [f0])
    | c :: t =>
      refine (if_pos (by rw [bl_toList]; simp)).trans ((if_neg Bool.false_ne_true).trans ?_)
      simp only [rnd10]
      have ret : ∀ {v w : Int} {x r : List UInt8}, mayV v w (bl x) = false → sure v w x r = none := fun h => if_neg (by rw [h]; decide)
      have fine : ∀ {v w : Int} {x r : List UInt8}, mayV v w (bl x) = true → sure v w x r = some (valE v w x, r) := fun h => if_pos h
      by_cases k1 : kd c = 1
      · refine (if_pos (show (kd c == 1) = true from beq_iff_eq.2 k1)).trans ?_
        match t with
        | [] =>
          have e : decV [c] = none := (if_pos k1).trans rfl
          rw [e]; exact (if_pos rfl).trans rfl
        | b :: r =>
          have e : decV (c :: b :: r) = sure (kd c) (IntKind.i64.wrap ((b.toNat : Nat) : Int)) [] r := (if_pos k1).trans rfl
          rw [e]
          refine (if_neg Bool.false_ne_true).trans ?_
          cases hm : mayV (kd c) (IntKind.i64.wrap ((b.toNat : Nat) : Int)) (bl []) with
          | false => rw [ret hm]; exact (if_pos (by rw [Bool.not_eq_true']; exact hm)).trans rfl
          | true => rw [fine hm]; exact (if_neg (by rw [Bool.not_eq_true', Bool.not_eq_false]; exact hm)).trans ((if_pos hd).trans (en _ _))
      · refine (if_neg (show ¬ (kd c == 1) = true from fun h => k1 (beq_iff_eq.1 h))).trans ?_
        by_cases k2 : kd c = 2
        · refine (if_pos (show (kd c == 2) = true from beq_iff_eq.2 k2)).trans ?_
          match t with
          | [] =>
            have e : decV [c] = none := (if_neg k1).trans ((if_pos k2).trans rfl)
            rw [e]; exact (if_pos rfl).trans rfl
          | [b0] =>
            have e : decV [c, b0] = none := (if_neg k1).trans ((if_pos k2).trans rfl)
            rw [e]; exact (if_neg Bool.false_ne_true).trans ((if_pos rfl).trans rfl)
          | [b0, b1] =>
            have e : decV [c, b0, b1] = none := (if_neg k1).trans ((if_pos k2).trans rfl)
            rw [e]; exact (if_neg Bool.false_ne_true).trans ((if_neg Bool.false_ne_true).trans ((if_pos rfl).trans rfl))
          | [b0, b1, b2] =>
            have e : decV [c, b0, b1, b2] = none := (if_neg k1).trans ((if_pos k2).trans rfl)
            rw [e]; exact (if_neg Bool.false_ne_true).trans ((if_neg Bool.false_ne_true).trans ((if_neg Bool.false_ne_true).trans ((if_pos rfl).trans rfl)))
          | [b0, b1, b2, b3] =>
            have e : decV [c, b0, b1, b2, b3] = none := (if_neg k1).trans ((if_pos k2).trans rfl)
            rw [e]; exact (if_neg Bool.false_ne_true).trans ((if_neg Bool.false_ne_true).trans ((if_neg Bool.false_ne_true).trans ((if_neg Bool.false_ne_true).trans ((if_pos rfl).trans rfl))))
          | [b0, b1, b2, b3, b4] =>
            have e : decV [c, b0, b1, b2, b3, b4] = none := (if_neg k1).trans ((if_pos k2).trans rfl)
            rw [e]; exact (if_neg Bool.false_ne_true).trans ((if_neg Bool.false_ne_true).trans ((if_neg Bool.false_ne_true).trans ((if_neg Bool.false_ne_true).trans ((if_neg Bool.false_ne_true).trans ((if_pos rfl).trans rfl)))))
          | [b0, b1, b2, b3, b4, b5] =>
            have e : decV [c, b0, b1, b2, b3, b4, b5] = none := (if_neg k1).trans ((if_pos k2).trans rfl)
            rw [e]; exact (if_neg Bool.false_ne_true).trans ((if_neg Bool.false_ne_true).trans ((if_neg Bool.false_ne_true).trans ((if_neg Bool.false_ne_true).trans ((if_neg Bool.false_ne_true).trans ((if_neg Bool.false_ne_true).trans ((if_pos rfl).trans rfl))))))
          | [b0, b1, b2, b3, b4, b5, b6] =>
            have e : decV [c, b0, b1, b2, b3, b4, b5, b6] = none := (if_neg k1).trans ((if_pos k2).trans rfl)
            rw [e]; exact (if_neg Bool.false_ne_true).trans ((if_neg Bool.false_ne_true).trans ((if_neg Bool.false_ne_true).trans ((if_neg Bool.false_ne_true).trans ((if_neg Bool.false_ne_true).trans ((if_neg Bool.false_ne_true).trans ((if_neg Bool.false_ne_true).trans ((if_pos rfl).trans rfl)))))))
          | b0 :: b1 :: b2 :: b3 :: b4 :: b5 :: b6 :: b7 :: r =>
            have e : decV (c :: b0 :: b1 :: b2 :: b3 :: b4 :: b5 :: b6 :: b7 :: r) = sure (kd c) (num [b0, b1, b2, b3, b4, b5, b6, b7]) [] r := (if_neg k1).trans ((if_pos k2).trans rfl)
            rw [e]
            refine (if_neg Bool.false_ne_true).trans ((if_neg Bool.false_ne_true).trans ((if_neg Bool.false_ne_true).trans ((if_neg Bool.false_ne_true).trans ((if_neg Bool.false_ne_true).trans ((if_neg Bool.false_ne_true).trans ((if_neg Bool.false_ne_true).trans ((if_neg Bool.false_ne_true).trans ?_)))))))
            cases hm : mayV (kd c) (num [b0, b1, b2, b3, b4, b5, b6, b7]) (bl []) with
            | false => rw [ret hm]; exact (if_pos (by rw [Bool.not_eq_true']; exact hm)).trans rfl
            | true => rw [fine hm]; exact (if_neg (by rw [Bool.not_eq_true', Bool.not_eq_false]; exact hm)).trans ((if_pos hd).trans (en _ _))
        · refine (if_neg (show ¬ (kd c == 2) = true from fun h => k2 (beq_iff_eq.1 h))).trans ?_
          by_cases k3 : kd c = 3
          · refine (if_pos (show (kd c == 3) = true from beq_iff_eq.2 k3)).trans ((if_pos (decide_eq_true (by show (bl t).size ≤ 999999999999; rw [bl_size]; simp only [List.length_cons] at hl; omega))).trans ?_)
            have e : decV (c :: t) = if (txt t).2.2 = true then sure (kd c) 0 (txt t).1 (txt t).2.1 else none := (if_neg k1).trans ((if_neg k2).trans ((if_pos k3).trans rfl))
            rw [e]
            by_cases he : (txt t).1 = []
            · refine (if_pos (decide_eq_true he)).trans ?_
              cases ho : (txt t).2.2 with
              | false => exact (if_pos (by rw [Bool.not_eq_true']; exact ho)).trans rfl
              | true =>
                refine (if_neg (by rw [Bool.not_eq_true', Bool.not_eq_false]; exact ho)).trans ?_
                rw [he]
                simp only [if_true]
                cases hm : mayV (kd c) 0 (bl []) with
                | false => rw [ret hm]; exact (if_pos (by rw [Bool.not_eq_true']; exact hm)).trans rfl
                | true =>
                  rw [fine hm]
                  refine (if_neg (by rw [Bool.not_eq_true', Bool.not_eq_false]; exact hm)).trans ((if_pos hd).trans ?_)
                  rw [show (bl (c :: t)).data.toList.tail = t from rfl, ho]; exact en _ _
            · refine (if_neg (fun h => he (of_decide_eq_true h))).trans ?_
              cases ho : (txt t).2.2 with
              | false => exact (if_pos (by rw [Bool.not_eq_true']; exact ho)).trans rfl
              | true =>
                refine (if_neg (by rw [Bool.not_eq_true', Bool.not_eq_false]; exact ho)).trans ?_
                simp only [if_true]
                cases hm : mayV (kd c) 0 (bl (txt t).1) with
                | false => rw [ret hm]; exact (if_pos (by rw [Bool.not_eq_true', strOf_bc]; exact hm)).trans rfl
                | true =>
                  rw [fine hm]
                  refine (if_neg (by rw [Bool.not_eq_true', Bool.not_eq_false, strOf_bc]; exact hm)).trans ((if_pos hd).trans ?_)
                  rw [show (bl (c :: t)).data.toList.tail = t from rfl, ho, strOf_bc]; exact en _ _
          · refine (if_neg (show ¬ (kd c == 3) = true from fun h => k3 (beq_iff_eq.1 h))).trans ?_
            have e : decV (c :: t) = sure (kd c) 0 [] t := (if_neg k1).trans ((if_neg k2).trans ((if_neg k3).trans rfl))
            rw [e]
            cases hm : mayV (kd c) 0 (bl []) with
            | false => rw [ret hm]; exact (if_pos (by rw [Bool.not_eq_true']; exact hm)).trans rfl
            | true => rw [fine hm]; exact (if_neg (by rw [Bool.not_eq_true', Bool.not_eq_false]; exact hm)).trans ((if_pos hd).trans (en _ _))

end Go.Proofs.Ytnnogckknlgeiaa
end

section
/- The Key program: key.Decode's loop, told. -/
set_option linter.unusedVariables false
namespace Go.Proofs.Ytnnogckknlgeiaa
open Go.Pu

def outD (acc : List (List PV)) : Option (List (List PV)) → Out
  | none => ret10
  | some es => fin10 (acc ++ es)

noncomputable def out10 (σ : TD) : Out := outD σ.2 (dec σ.1)

noncomputable def g10 {R : Type} (B : BT R) : Smy R := fun ts h k =>
  match h, ts.length, ts.getD 2 .top, ts.getD 3 .top, ts.getD 4 .top, ts.getD 5 .top with
  | [.box 38 [.str s, .bool true]], 32, .nils, .bool false, .ptr 0 0, .nils =>
    B (decide (s.size ≤ 99999999)) (B (dec s.data.toList).isSome
      (B (decide ((dec s.data.toList).getD [] = [])) (k (.exit 0) (pl 32 [(5, .nils)]) []) (k (.exit 0) (pl 32 [(5, .all 0)]) [.arr 32 ((dec s.data.toList).getD []) true]))
      (k .ret (pl 32 [(2, .nils), (3, .bool false)]) [])) none
  | _, _, _, _, _, _ => none

theorem callKL {R : Type} {LS : FuncId → Nat → Nat → Option (Smy R)} {P : Program} {X : Ext} {M : FuncId → Bool} {L : FuncId → Nat → Option (List Nat)} (h : LoopsOK P X M L LS) (n : Nat) : CallKIn (R := R) (InS P X M L) (callK br P X M L LS n) := callK_ev h n

theorem ls5_ok {R : Type} : LoopsOK (R := R) Try.prog X6 M0 L3 (LS5 br) := loopsOK_list rids fun e h => by
  simp only [List.mem_cons, List.not_mem_nil, or_false] at h
  subst h
  exact loop28

theorem fin10_exit (es : List (List PV)) : (fin10 es).1 = .exit 0 := by unfold fin10; split <;> rfl

theorem decide_nil (es : List (List PV)) : decide (es = []) = true ↔ es = [] := by simp

theorem loop10 {R : Type} : LoopTells Try.prog X6 M0 L3 0 (L3 10) (bodyOf Try.prog 10 3) (g10 (R := R) br) := by
  have hrid : rid (bodyOf Try.prog 10 3) = 3 := by kernel_rfl
  refine loopTells_of (n := 24) (callKL ls5_ok 24) lsok_none (fun σ : TD => σ.1.length + σ.2.length ≤ 99999999) enc10 (fun σ => σ.1.length) out10 ?_ ?_
  · intro ts h c k r hc hk
    rw [hrid] at hc
    unfold g10 at hk
    split at hk
    · rename_i s h0 h1 h2 h3 h4 h5
      obtain ⟨hl, hk2⟩ := br_test hk
      clear hk
      simp only [decide_eq_true_eq] at hl
      refine ⟨(s.data.toList, []), by simpa using hl, ?_, ?_⟩
      · refine Prod.ext (cleaned_pl hc [(2, .nils), (3, .bool false), (4, .ptr 0 0), (5, .nils)] h1 rfl rfl rfl ?_) ?_
        · simp only [List.forall_mem_cons]
          exact ⟨h2, h3, h4, h5, fun _ h => by cases h⟩
        · rw [h0]
          simp only [enc10, rdr, if_true, bl_data]
      · unfold out10
        dsimp only
        cases hd : dec s.data.toList with
        | none => rw [hd] at hk2; exact hk2
        | some es =>
          rw [hd] at hk2
          simp only [outD, List.nil_append]
          unfold fin10
          by_cases he : es = []
          · rw [if_pos he]; subst he; exact hk2
          · rw [if_neg he]
            refine Eq.trans ?_ hk2
            exact (if_neg (by simpa using he)).symm
    · cases hk
  · rintro ⟨l, acc⟩ hi
    rw [hrid]
    dsimp only at hi
    have hr := round10 l acc (by omega) (by omega)
    refine ⟨(rnd10 (l, acc)).1, (rnd10 (l, acc)).2, hr, ?_⟩
    cases l with
    | nil =>
      have e : rnd10 ([], acc) = fin10 acc := rfl
      have e2 : out10 ([], acc) = fin10 acc := by
        unfold out10
        rw [dec_nil]
        simp [outD]
      rw [e, e2]
      exact .inr ⟨by rw [fin10_exit]; simp, rfl⟩
    | cons c t =>
      have ds := dec_step (l := c :: t) (by simp)
      cases hd : decV (c :: t) with
      | none =>
        have e : rnd10 (c :: t, acc) = ret10 := by simp only [rnd10, hd]
        have e2 : out10 (c :: t, acc) = ret10 := by
          unfold out10
          rw [ds, hd]; rfl
        rw [e, e2]
        exact .inr ⟨by simp [ret10], rfl⟩
      | some q =>
        obtain ⟨f, r⟩ := q
        have hlt := decV_less hd
        have e : rnd10 (c :: t, acc) = (.normal, enc10 (r, acc ++ [f])) := by simp only [rnd10, hd]
        rw [e]
        refine .inl ⟨rfl, (r, acc ++ [f]), ?_, rfl, hlt, ?_⟩
        · simp at hi hlt ⊢; omega
        · unfold out10
          rw [ds, hd]
          dsimp only
          cases dec r with
          | none => rfl
          | some es => simp [outD]

end Go.Proofs.Ytnnogckknlgeiaa
end

section
/- Equations: what the machine prints. -/
set_option linter.unusedVariables false
namespace Go.Proofs.Ytnnogckknlgeiaa
open Go.Pu

noncomputable abbrev LS6 {R : Type} (B : BT R) : FuncId → Nat → Nat → Option (Smy R) := lsT [(10, 0, 3, g10 B)]


set_option maxRecDepth 100000 in
theorem ev10 {R : Type} (n : Nat) (s : ByteArray) (k : PV × Heap → Option R) :
  callK br Try.prog X6 M0 L3 (LS6 br) (n+12) 10 [.str s] [] k =
  br (decide (ByteArray.size s ≤ 99999999))
  (br (Option.isSome (dec (Array.toList (ByteArray.data s))))
    (br (decide (Option.getD (dec (Array.toList (ByteArray.data s))) [] = [])) (k (PV.tuple [PV.nils, PV.bool true], []))
      (k
        (PV.tuple [PV.all 0, PV.bool true],
          [Blk.arr 32 (Option.getD (dec (Array.toList (ByteArray.data s))) []) true])))
    (k (PV.tuple [PV.nils, PV.bool false], [])))
  none := by
  rw [← callF_eq]; kernel_rfl

set_option maxRecDepth 100000 in
theorem rd20 {R : Type} (n : Nat) (v w a : Int) (s t : ByteArray) (k : Ex → List PV → Heap → Option R) :
  runK br Try.prog (callK br Try.prog X6 M0 L3 (fun _ _ _ => none) (n+24)) M0 (fun _ => none) (n+24) 0 (L3 20) (bodyOf Try.prog 20 15) (pl 114 [(0, .str s), (1, .int .i64 a), (4, .ptr 0 0), (7, .ptr 1 0)]) [.box 32 [.int .i64 0, .int .i64 0, .str ⟨#[]⟩], .box 32 [.int .i64 v, .int .i64 w, .str t]] (fun e ts h => (cleanX 0 (L3 20) 15 e ts h).bind fun c => k e c.1 c.2) =
  br (decide (IntKind.wrap IntKind.i64 (a + (1 : Int)) < (↑(ByteArray.size s) : Int)))
  (br (decide ((0 : Int) ≤ a ∧ a < (↑(ByteArray.size s) : Int)))
    (br ((↑(UInt8.toNat (List.getD (Array.toList (ByteArray.data s)) (Int.toNat a) (0 : UInt8))) : Int) == (0 : Int))
      (br
        (decide
          ((0 : Int) ≤ IntKind.wrap IntKind.i64 (a + (1 : Int)) ∧
            IntKind.wrap IntKind.i64 (a + (1 : Int)) < (↑(ByteArray.size s) : Int)))
        (br
          (!(↑(UInt8.toNat
                    (List.getD (Array.toList (ByteArray.data s)) (Int.toNat (IntKind.wrap IntKind.i64 (a + (1 : Int))))
                      (0 : UInt8))) :
                Int) ==
              (1 : Int))
          (br
            (decide
              ((0 : Int) ≤ a ∧
                a ≤ IntKind.wrap IntKind.i64 (a + (1 : Int)) ∧
                  IntKind.wrap IntKind.i64 (a + (1 : Int)) ≤ (↑(ByteArray.size s) : Int)))
            (br
              (decide
                (ByteArray.size t +
                    ByteArray.size
                      (ByteArray.extract s (Int.toNat a) (Int.toNat (IntKind.wrap IntKind.i64 (a + (1 : Int))))) ≤
                  9223372036854775807))
              (br (decide ((0 : Int) ≤ a ∧ a < (↑(ByteArray.size s) : Int)))
                (br
                  ((↑(UInt8.toNat (List.getD (Array.toList (ByteArray.data s)) (Int.toNat a) (0 : UInt8))) : Int) ==
                    (0 : Int))
                  (k Ex.normal
                    (pl 114
                      [(0, PV.str s),
                        (1,
                          PV.int IntKind.i64
                            (IntKind.wrap IntKind.i64 (IntKind.wrap IntKind.i64 (a + (1 : Int)) + (1 : Int)))),
                        (4, PV.ptr 0 0), (7, PV.ptr 1 0)])
                    [Blk.box 32
                        [PV.int IntKind.i64 (0 : Int), PV.int IntKind.i64 (0 : Int), PV.str { data := #[] }],
                      Blk.box 32
                        [PV.int IntKind.i64 v, PV.int IntKind.i64 w,
                          PV.str
                            (t ++
                              ByteArray.extract s (Int.toNat a)
                                (Int.toNat (IntKind.wrap IntKind.i64 (a + (1 : Int)))))]])
                  (k Ex.normal
                    (pl 114
                      [(0, PV.str s),
                        (1, PV.int IntKind.i64 (IntKind.wrap IntKind.i64 (a + (1 : Int)))),
                        (4, PV.ptr 0 0), (7, PV.ptr 1 0)])
                    [Blk.box 32
                        [PV.int IntKind.i64 (0 : Int), PV.int IntKind.i64 (0 : Int), PV.str { data := #[] }],
                      Blk.box 32
                        [PV.int IntKind.i64 v, PV.int IntKind.i64 w,
                          PV.str
                            (t ++
                              ByteArray.extract s (Int.toNat a)
                                (Int.toNat (IntKind.wrap IntKind.i64 (a + (1 : Int)))))]]))
                none)
              none)
            none)
          (k (Ex.exit 2)
            (pl 114
              [(0, PV.str s), (1, PV.int IntKind.i64 a), (4, PV.ptr 0 0),
                (7, PV.ptr 1 0)])
            [Blk.box 32 [PV.int IntKind.i64 (0 : Int), PV.int IntKind.i64 (0 : Int), PV.str { data := #[] }],
              Blk.box 32 [PV.int IntKind.i64 v, PV.int IntKind.i64 w, PV.str t]]))
        none)
      (br
        (decide
          ((0 : Int) ≤ a ∧
            a ≤ IntKind.wrap IntKind.i64 (a + (1 : Int)) ∧
              IntKind.wrap IntKind.i64 (a + (1 : Int)) ≤ (↑(ByteArray.size s) : Int)))
        (br
          (decide
            (ByteArray.size t +
                ByteArray.size
                  (ByteArray.extract s (Int.toNat a) (Int.toNat (IntKind.wrap IntKind.i64 (a + (1 : Int))))) ≤
              9223372036854775807))
          (br (decide ((0 : Int) ≤ a ∧ a < (↑(ByteArray.size s) : Int)))
            (br
              ((↑(UInt8.toNat (List.getD (Array.toList (ByteArray.data s)) (Int.toNat a) (0 : UInt8))) : Int) ==
                (0 : Int))
              (k Ex.normal
                (pl 114
                  [(0, PV.str s),
                    (1,
                      PV.int IntKind.i64
                        (IntKind.wrap IntKind.i64 (IntKind.wrap IntKind.i64 (a + (1 : Int)) + (1 : Int)))),
                    (4, PV.ptr 0 0), (7, PV.ptr 1 0)])
                [Blk.box 32
                    [PV.int IntKind.i64 (0 : Int), PV.int IntKind.i64 (0 : Int), PV.str { data := #[] }],
                  Blk.box 32
                    [PV.int IntKind.i64 v, PV.int IntKind.i64 w,
                      PV.str
                        (t ++
                          ByteArray.extract s (Int.toNat a) (Int.toNat (IntKind.wrap IntKind.i64 (a + (1 : Int)))))]])
              (k Ex.normal
                (pl 114
                  [(0, PV.str s), (1, PV.int IntKind.i64 (IntKind.wrap IntKind.i64 (a + (1 : Int)))),
                    (4, PV.ptr 0 0), (7, PV.ptr 1 0)])
                [Blk.box 32
                    [PV.int IntKind.i64 (0 : Int), PV.int IntKind.i64 (0 : Int), PV.str { data := #[] }],
                  Blk.box 32
                    [PV.int IntKind.i64 v, PV.int IntKind.i64 w,
                      PV.str
                        (t ++
                          ByteArray.extract s (Int.toNat a) (Int.toNat (IntKind.wrap IntKind.i64 (a + (1 : Int)))))]]))
            none)
          none)
        none))
    none)
  (k (Ex.exit 2)
    (pl 114
      [(0, PV.str s), (1, PV.int IntKind.i64 a), (4, PV.ptr 0 0),
        (7, PV.ptr 1 0)])
    [Blk.box 32 [PV.int IntKind.i64 (0 : Int), PV.int IntKind.i64 (0 : Int), PV.str { data := #[] }],
      Blk.box 32 [PV.int IntKind.i64 v, PV.int IntKind.i64 w, PV.str t]]) := by
  rw [← callF_eq, ← runF_eq]; kernel_rfl

end Go.Proofs.Ytnnogckknlgeiaa
end
