/- The pure machine: how a loop's summary is shown, round by round. -/
import Derived.Test.YtkaljlpbmbfpgaaGreatDoorSI
set_option linter.unusedSimpArgs false
set_option linter.unusedVariables false
namespace Go.Pu

/-- at the end of a round: what is kept -/
def idc (P : Program) (kk : Nat) (live : Nat → Option (List Nat)) (i : Nat) : Ex → List PV → Heap → Option Out := fun e ts h => (cleanX P kk live i e ts h).bind fun c => some (e, c.1, c.2)

section
variable {P : Program} {X : Ext} {M : FuncId → Bool} {L : FuncId → Nat → Option (List Nat)}

/-- places, most of them empty -/
def pl (n : Nat) : List (Nat × PV) → List PV
 | [] => List.replicate n .top
 | (i, x) :: r => (pl n r).set i x

theorem loop_runs {CK : CallK Out} (hC : CallKIn (InS P X M L) CK) {LS : Nat → Option (Smy Out)} {n kk : Nat} {live : Nat → Option (List Nat)} {a : Code} (hL : LSOK P X M L LS kk live a)
  {S : Type} {inv : S → Prop} {enc : S → List PV × Heap} {mu : S → Nat} {out : S → Out}
  (hstep : ∀ s, inv s → ∃ e c, runK br P CK M LS n kk live a (enc s).1 (enc s).2 (idc P kk live (rid a)) = some (e, c) ∧
   ((e = .normal ∧ ∃ s', inv s' ∧ c = enc s' ∧ mu s' < mu s ∧ out s' = out s) ∨ (e ≠ .normal ∧ out s = (e, c)))) :
  ∀ (m : Nat) (s : S), mu s ≤ m → inv s → ∀ ts h, cleanX P kk live (rid a) .normal ts h = some (enc s) → ∃ N, LoopTo P X M L N kk live a ts h (out s) := by
 intro m
 induction m with
 | zero =>
  intro s hm hi ts h hc
  obtain ⟨e, c, e1, e2⟩ := hstep s hi
  obtain ⟨N, o, e3, e4⟩ := runK_ev hC a _ _ _ _ hL e1
  obtain ⟨oe, ots, oh⟩ := o
  unfold idc at e4
  obtain ⟨c', e5, e6⟩ := bindK e4
  cases e6
  rcases e2 with ⟨rfl, s', g1, g2, g3, g4⟩ | ⟨g1, g2⟩
  ·omega
  ·rw [g2]
   exact LoopTo.stop g1 hc e3 e5
 | succ m ih =>
  intro s hm hi ts h hc
  obtain ⟨e, c, e1, e2⟩ := hstep s hi
  obtain ⟨N, o, e3, e4⟩ := runK_ev hC a _ _ _ _ hL e1
  obtain ⟨oe, ots, oh⟩ := o
  unfold idc at e4
  obtain ⟨c', e5, e6⟩ := bindK e4
  cases e6
  rcases e2 with ⟨rfl, s', g1, g2, g3, g4⟩ | ⟨g1, g2⟩
  ·obtain ⟨N2, e7⟩ := ih s' (by omega) g1 ots oh (by rw [e5]; exact congrArg some g2)
   rw [← g4]
   exact LoopTo.next hc e3 e7
  ·rw [g2]
   exact LoopTo.stop g1 hc e3 e5

theorem loopTells_of {R : Type} {CK : CallK Out} (hC : CallKIn (InS P X M L) CK) {LS : Nat → Option (Smy Out)} {n kk : Nat} {live : Nat → Option (List Nat)} {a : Code} (hL : LSOK P X M L LS kk live a)
  {S : Type} (inv : S → Prop) (enc : S → List PV × Heap) (mu : S → Nat) (out : S → Out) {g : Smy R}
  (hg : ∀ ts h c k r, cleanX P kk live (rid a) .normal ts h = some c → g c.1 c.2 k = some r → ∃ s, inv s ∧ c = enc s ∧ k (out s).1 (out s).2.1 (out s).2.2 = some r)
  (hstep : ∀ s, inv s → ∃ e c, runK br P CK M LS n kk live a (enc s).1 (enc s).2 (idc P kk live (rid a)) = some (e, c) ∧
   ((e = .normal ∧ ∃ s', inv s' ∧ c = enc s' ∧ mu s' < mu s ∧ out s' = out s) ∨ (e ≠ .normal ∧ out s = (e, c)))) :
  LoopTells P X M L kk live a g := by
 intro ts h c k r hc hk
 obtain ⟨s, h1, h2, h3⟩ := hg ts h c k r hc hk
 subst h2
 obtain ⟨N, h4⟩ := loop_runs hC hL hstep (mu s) s (Nat.le_refl _) h1 ts h hc
 exact ⟨N, out s, h4, h3⟩

end

theorem wrap_i64 {n : Int} (h1 : -9223372036854775808 ≤ n) (h2 : n < 9223372036854775808) : IntKind.i64.wrap n = n := by
 rw [IntKind.wrap_i64]; omega

/-- a loop's body -/
def bodyOf (P : Program) (f i : Nat) : Code := (loopBody P f i).getD .skip

/-- a table of loops -/
def lsT {R : Type} : List (Nat × Nat × Nat × Smy R) → FuncId → Nat → Nat → Option (Smy R)
 | [], _, _, _ => none
 | e :: l, f, kk, i => if f = e.1 ∧ kk = e.2.1 ∧ i = e.2.2.1 then some e.2.2.2 else lsT l f kk i

theorem loopsOK_list {R : Type} {P : Program} {X : Ext} {M : FuncId → Bool} {L : FuncId → Nat → Option (List Nat)} (hr : ridsOK P = true) {l : List (Nat × Nat × Nat × Smy R)}
  (h : ∀ e ∈ l, LoopTells P X M L e.2.1 (L e.1) (bodyOf P e.1 e.2.2.1) e.2.2.2) : LoopsOK P X M L (lsT l) := by
 refine loopsOK_of hr ?_
 intro f kk i g a
 induction l with
 | nil => intro hg; cases hg
 | cons e l ih =>
  intro hg ha
  simp only [lsT] at hg
  split at hg
  ·rename_i he
   obtain ⟨rfl, rfl, rfl⟩ := he
   cases hg
   have := h e (by simp)
   unfold bodyOf at this
   rw [ha] at this
   exact this
  ·exact ih (fun e he => h e (by simp [he])) hg ha

def liveT : List (Nat × Nat × List Nat) → FuncId → Nat → Option (List Nat)
 | [], _, _ => none
 | e :: l, f, i => if f = e.1 ∧ i = e.2.1 then some e.2.2 else liveT l f i

def extT : List (Nat × (List PV → List Blk → Tr)) → Ext → Ext
 | [], X, f => X f
 | e :: l, X, f => if f = e.1 then some e.2 else extT l X f

theorem pl_length (n : Nat) : ∀ l, (pl n l).length = n
 | [] => by simp [pl]
 | (i, x) :: r => by simp [pl, pl_length n r]

theorem pl_get {n : Nat} : ∀ {l : List (Nat × PV)}, nodup (l.map (·.1)) = true → (∀ p ∈ l, p.1 < n) → ∀ p ∈ l, (pl n l).getD p.1 .top = p.2
 | [], _, _, p, h => by cases h
 | (i, x) :: r, hn, hl, p, h => by
  simp only [List.map_cons, nodup, Bool.and_eq_true, Bool.not_eq_true'] at hn
  rcases List.mem_cons.1 h with rfl | h
  ·have h1 := hl (i, x) (by simp)
   simp only at h1
   simp [pl, List.getD, pl_length, h1]
  ·have h1 : p.1 ≠ i := fun e => by
    have : (r.map (·.1)).contains i = true := by
     rw [← e]; simpa using ⟨p.2, h⟩
    rw [this] at hn; cases hn.1
   have h2 := pl_get hn.2 (fun p hp => hl p (by simp [hp])) p h
   simp only [pl, List.getD] at h2 ⊢
   rw [List.getElem?_set_ne (by omega)]
   exact h2

theorem pl_get_none {n : Nat} : ∀ {l : List (Nat × PV)} {i : Nat}, (l.map (·.1)).contains i = false → (pl n l).getD i .top = .top
 | [], i, _ => by
  simp only [pl, List.getD, List.getElem?_replicate]
  split <;> rfl
 | (j, x) :: r, i, h => by
  simp only [List.map_cons, List.contains_cons, Bool.or_eq_false_iff, beq_eq_false_iff_ne, ne_eq] at h
  simp only [pl, List.getD]
  rw [List.getElem?_set_ne (fun e => h.1 e.symm)]
  exact pl_get_none h.2

/-- what was cleaned is known by the places that are kept -/
theorem cleaned_pl {P : Program} {kk n : Nat} {live : List Nat} {ts : List PV} {h : Heap} {c : List PV × Heap} (hc : cleanL P kk (some live) ts h = some c) (l : List (Nat × PV)) (hn : c.1.length = n) (hl : (live.map (· % 1000000)).all (fun i => (l.map (·.1)).contains i) = true) (hd : nodup (l.map (·.1)) = true) (hlt : (l.map (·.1)).all (fun i => decide (i < n)) = true) (hv : ∀ p ∈ l, c.1.getD p.1 .top = p.2) :
  c.1 = pl n l := by
 have hlt' : ∀ p ∈ l, p.1 < n := fun p hp => by
  have := List.all_eq_true.1 hlt p.1 (by simpa using ⟨p.2, hp⟩)
  simpa using this
 have hg := pl_get hd hlt'
 have hsub : ∀ i, (l.map (·.1)).contains i = false → (live.map (· % 1000000)).contains i = false := fun i hi => by
  cases hx : (live.map (· % 1000000)).contains i with
  | false => rfl
  | true =>
   have := List.all_eq_true.1 hl i (by simpa using hx)
   rw [hi] at this; cases this
 simp only [cleanL, gc, Option.bind_eq_some_iff] at hc
 obtain ⟨⟨ts', h'⟩, _, ids, _, hc⟩ := hc
 dsimp only at hc
 split at hc
 ·have hc1 : c.1 = (ts'.mapIdx fun i v => if (live.map (· % 1000000)).contains i then v else .top).map (ren ids.idxOf) := by rw [← keepL_eq]; cases hc; rfl
  apply List.ext_getElem?
  intro i
  by_cases hi : i < n
  ·have h1 : i < c.1.length := by omega
   have h2 : i < (pl n l).length := by rw [pl_length]; omega
   rw [List.getElem?_eq_getElem h1, List.getElem?_eq_getElem h2]
   by_cases hcn : (l.map (·.1)).contains i = true
   ·have hm : i ∈ l.map (·.1) := by simpa using hcn
    obtain ⟨p, hp, rfl⟩ := List.mem_map.1 hm
    have g1 := hv p hp
    have g2 := hg p hp
    simp only [List.getD, List.getElem?_eq_getElem h1, List.getElem?_eq_getElem h2, Option.getD_some] at g1 g2
    rw [g1, g2]
   ·have hcn' : (l.map (·.1)).contains i = false := by simpa using hcn
    have g2 := pl_get_none (n := n) hcn'
    simp only [List.getD, List.getElem?_eq_getElem h2, Option.getD_some] at g2
    rw [g2]
    have h3 : c.1[i]? = some .top := by
     rw [hc1, List.getElem?_map, List.getElem?_mapIdx]
     rw [hc1, List.length_map, List.length_mapIdx] at h1
     rw [List.getElem?_eq_getElem h1]
     simp only [Option.map_some, hsub i hcn', if_false, Bool.false_eq_true]
     rfl
    rw [List.getElem?_eq_getElem h1] at h3
    exact h3
  ·rw [List.getElem?_eq_none (by omega), List.getElem?_eq_none (by rw [pl_length]; omega)]
 ·cases hc

/-- a row of the table is right -/
def EOK (P : Program) (f : FuncId) (g : List PV → List Blk → Tr) : Prop := ∃ X, XOK P X ∧ X f = some g

theorem EOK.or {P : Program} {f : FuncId} {g g1 g2 : List PV → List Blk → Tr} (h1 : EOK P f g1) (h2 : EOK P f g2) (h : ∀ xs hc r, (g xs hc).val = some r → (g1 xs hc).val = some r ∨ (g2 xs hc).val = some r) : EOK P f g := by
 obtain ⟨X1, a1, b1⟩ := h1
 obtain ⟨X2, a2, b2⟩ := h2
 refine ⟨fun f' => if f' = f then some g else none, fun f' g' xs hc r hf hg => ?_, by simp⟩
 dsimp only at hf
 split at hf
 ·rename_i e
  subst e
  cases hf
  rcases h xs hc r hg with h | h
  ·exact a1 _ _ xs hc r b1 h
  ·exact a2 _ _ xs hc r b2 h
 ·cases hf

theorem xokT {P : Program} {X : Ext} (hX : XOK P X) {l : List (Nat × (List PV → List Blk → Tr))} (h : ∀ e ∈ l, EOK P e.1 e.2) : XOK P (extT l X) := by
 intro f g xs hc r hf hg
 induction l with
 | nil => exact hX f g xs hc r hf hg
 | cons e l ih =>
  simp only [extT] at hf
  split at hf
  ·rename_i he
   subst he
   cases hf
   obtain ⟨X', h1, h2⟩ := h e (by simp)
   exact h1 _ _ xs hc r h2 hg
  ·exact ih (fun e he => h e (by simp [he])) hf

end Go.Pu
