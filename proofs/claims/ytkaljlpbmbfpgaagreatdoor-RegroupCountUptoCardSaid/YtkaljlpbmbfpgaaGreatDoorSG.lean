/- The pure machine, thirty-third part: what the second form tells the first one tells. -/
import Derived.Test.YtkaljlpbmbfpgaaGreatDoorSF
set_option linter.unusedSimpArgs false
set_option linter.unusedVariables false
namespace Go.Pu

section
variable {R : Type} {P : Program} {r : R}

theorem bindK {α : Type} {o : Option α} {k : α → Option R} (h : o.bind k = some r) : ∃ a, o = some a ∧ k a = some r := Option.bind_eq_some_iff.1 h

theorem br_dec {p : Prop} [Decidable p] {x : Option R} (h : br (decide p) x none = some r) : p ∧ x = some r := by
 rw [br_if] at h
 split at h
 ·rename_i hp; exact ⟨by simpa using hp, h⟩
 ·cases h

theorem br_dec' {p : Prop} [Decidable p] {x : Option R} (h : br (decide p) none x = some r) : ¬ p ∧ x = some r := by
 rw [br_if] at h
 split at h
 ·cases h
 ·rename_i hp; exact ⟨by simpa using hp, h⟩

theorem contentK_spec {h : Heap} {x : PV} {k : Option TypeId × List (List PV) → Option R} (hk : contentK br h x k = some r) : ∃ c, content h x = some c ∧ k c = some r := by
 unfold contentK at hk
 split at hk
 ·split at hk
  ·rename_i hb
   obtain ⟨hl, hk⟩ := br_dec hk
   exact ⟨_, by simp only [content, hb, if_pos hl], hk⟩
  ·cases hk
 ·exact bindK hk

theorem binOpK_spec {op : BinOp} {t : TypeId} {x y : PV} {k : PV → Option R} (hk : binOpK br P op t x y k = some r) : ∃ v, binOp P op t x y = some v ∧ k v = some r := by
 unfold binOpK at hk
 split at hk
 ·split at hk
  ·obtain ⟨hb, hk⟩ := br_dec' hk
   exact ⟨_, by simp only [binOp, shiftOp, if_neg hb], hk⟩
  ·obtain ⟨hb, hk⟩ := br_dec' hk
   exact ⟨_, by simp only [binOp, shiftOp, if_neg hb], hk⟩
  ·split at hk
   ·rename_i he
    obtain ⟨hb, hk⟩ := br_dec' hk
    exact ⟨_, by simp only [binOp, intOp, if_pos he, if_neg hb], hk⟩
   ·cases hk
  ·split at hk
   ·rename_i he
    obtain ⟨hb, hk⟩ := br_dec' hk
    exact ⟨_, by simp only [binOp, intOp, if_pos he, if_neg hb], hk⟩
   ·cases hk
  ·exact bindK hk
 ·split at hk
  ·obtain ⟨hs, hk⟩ := br_dec hk
   exact ⟨_, by simp only [binOp, strOp, if_pos hs], hk⟩
  ·obtain ⟨v, e1, e2⟩ := bindK hk
   exact ⟨v, by simpa only [binOp] using e1, e2⟩
 ·rename_i u es
  rw [br_if] at hk
  split at hk
  ·cases hk
  ·rename_i he
   cases es with
   | nil => exact absurd rfl he
   | cons c es =>
    split at hk
    ·rename_i hu; exact ⟨_, by simp [binOp, eqOp, hu], hk⟩
    ·rename_i hu; exact ⟨_, by simp [binOp, eqOp, hu], hk⟩
    ·cases hk
 ·exact bindK hk

theorem indexOpK_spec {t : TypeId} {x i : PV} {k : PV → Option R} (hk : indexOpK br P t x i k = some r) : ∃ v, indexOp P t x i = some v ∧ k v = some r := by
 unfold indexOpK at hk
 split at hk
 ·rename_i hu
  obtain ⟨hc, hk⟩ := br_dec hk
  exact ⟨_, by simp only [indexOp, hu, if_pos hc], hk⟩
 ·exact bindK hk

theorem indexAddrOpK_spec {t : TypeId} {h : Heap} {x i : PV} {k : PV → Option R} (hk : indexAddrOpK br P t h x i k = some r) : ∃ v, indexAddrOp P t h x i = some v ∧ k v = some r := by
 unfold indexAddrOpK at hk
 unfold indexAddrOp
 split at hk
 ·rename_i hu
  simp only [hu]
  split at hk
  ·cases hk
  ·rename_i he
   rw [if_neg he]
   split at hk
   ·split at hk
    ·rename_i hT
     obtain ⟨hc, hk⟩ := br_dec hk
     exact ⟨_, by simp only [hT, hc, and_self, if_true], hk⟩
    ·cases hk
   ·split at hk
    ·rename_i hb
     split at hk
     ·rename_i hT
      obtain ⟨hc, hk⟩ := br_dec hk
      exact ⟨_, by simp only [hb, hT, hc, and_self, if_true], hk⟩
     ·cases hk
    ·cases hk
   ·split at hk
    ·rename_i hb
     split at hk
     ·rename_i hT
      obtain ⟨hc, hk⟩ := br_dec hk
      exact ⟨_, by simp only [hb, hT, hc, and_self, if_true], hk⟩
     ·cases hk
    ·cases hk
   ·cases hk
 ·rename_i hu
  simp only [hu]
  split at hk
  ·obtain ⟨g, e1, e2⟩ := bindK hk
   split at e2
   ·rename_i ha
    obtain ⟨hc, e2⟩ := br_dec e2
    exact ⟨_, by simp only [e1, Option.bind_some, hc, ha, and_self, if_true], e2⟩
   ·cases e2
  ·cases hk
 ·cases hk

theorem sliceRowK_spec {e : TypeId} {h : Heap} {lo hi : Option PV} {x : PV} {k : PV → Option R} (hk : sliceRowK br P e h lo hi x k = some r) : ∃ v, sliceRow P e h lo hi x = some v ∧ k v = some r := by
 unfold sliceRowK at hk
 split at hk
 ·cases hk
 ·rename_i he
  split at hk
  ·obtain ⟨l, e1, e2⟩ := bindK hk
   obtain ⟨u, e3, e4⟩ := bindK e2
   split at e4
   ·rename_i hT
    obtain ⟨hc, e4⟩ := br_dec e4
    exact ⟨_, by simp only [sliceRow, if_neg he, e1, e3, Option.bind_some, hT, hc, and_self, if_true], e4⟩
   ·cases e4
  ·split at hk
   ·rename_i hb
    obtain ⟨l, e1, e2⟩ := bindK hk
    obtain ⟨u, e3, e4⟩ := bindK e2
    split at e4
    ·rename_i hT
     obtain ⟨hc, e4⟩ := br_dec e4
     exact ⟨_, by simp only [sliceRow, if_neg he, hb, e1, e3, Option.bind_some, hT, hc, and_self, if_true], e4⟩
    ·cases e4
   ·cases hk
  ·split at hk
   ·rename_i hb
    obtain ⟨l, e1, e2⟩ := bindK hk
    obtain ⟨u, e3, e4⟩ := bindK e2
    split at e4
    ·rename_i hT
     obtain ⟨hc, e4⟩ := br_dec e4
     exact ⟨_, by simp only [sliceRow, if_neg he, hb, e1, e3, Option.bind_some, hT, hc, and_self, if_true], e4⟩
    ·cases e4
   ·cases hk
  ·exact bindK hk

theorem sliceOpK_spec {t : TypeId} {h : Heap} {x : PV} {lo hi mx : Option PV} {k : PV → Option R} (hk : sliceOpK br P t h x lo hi mx k = some r) : ∃ v, sliceOp P t h x lo hi mx = some v ∧ k v = some r := by
 unfold sliceOpK at hk
 unfold sliceOp
 split at hk
 ·rename_i hm
  rw [if_pos hm]
  exact bindK hk
 ·rename_i hm
  rw [if_neg hm]
  split at hk
  ·rename_i hu
   simp only [hu]
   split at hk
   ·unfold sliceStrK at hk
    obtain ⟨l, e1, e2⟩ := bindK hk
    obtain ⟨u, e3, e4⟩ := bindK e2
    obtain ⟨hc, e4⟩ := br_dec e4
    exact ⟨_, by simp only [sliceStr, e1, e3, Option.bind_some, if_pos hc], e4⟩
   ·cases hk
  ·rename_i hu
   simp only [hu]
   exact sliceRowK_spec hk
  ·cases hk

theorem loadOpK_spec {t : TypeId} {h : Heap} {a : PV} {k : PV → Option R} (hk : loadOpK br P t h a k = some r) : ∃ v, loadOp P t h a = some v ∧ k v = some r := by
 unfold loadOpK at hk
 split at hk
 ·split at hk
  ·rename_i hb
   obtain ⟨hi, hk⟩ := br_dec hk
   obtain ⟨v, e1, e2⟩ := bindK hk
   exact ⟨v, by simp only [loadOp, hb, if_pos hi, e1], e2⟩
  ·cases hk
 ·exact bindK hk

theorem purCellK_spec {h : Heap} {kd : Kd} {x : PV} {k : PV × Heap → Option R} (hk : purCellK br h kd x k = some r) : ∃ v, purCell h kd x = some v ∧ k v = some r := by
 unfold purCellK at hk
 split at hk
 ·split at hk
  ·rename_i hb
   split at hk
   ·rename_i ht
    obtain ⟨hl, hk⟩ := br_dec hk
    exact ⟨_, by simp only [purCell, hb, ht, hl, and_self, if_true], hk⟩
   ·cases hk
  ·cases hk
 ·exact bindK hk

theorem purCellsK_spec : ∀ {ks : List Kd} {cs : List PV} {h : Heap} {k : List PV × Heap → Option R}, purCellsK br h ks cs k = some r → ∃ v, purCells h ks cs = some v ∧ k v = some r
 | [], [], h, k, hk => ⟨_, rfl, hk⟩
 | kd :: ks, c :: cs, h, k, hk => by
  simp only [purCellsK] at hk
  obtain ⟨v, e1, e2⟩ := purCellK_spec hk
  obtain ⟨s, e3, e4⟩ := purCellsK_spec e2
  exact ⟨_, by simp only [purCells, e1, e3, Option.bind_some], e4⟩
 | [], _ :: _, _, _, hk => by cases hk
 | _ :: _, [], _, _, hk => by cases hk

theorem storeOpK_spec {t : TypeId} {h : Heap} {a x : PV} {k : Heap → Option R} (hk : storeOpK br P t h a x k = some r) : ∃ v, storeOp P t h a x = some v ∧ k v = some r := by
 unfold storeOpK at hk
 split at hk
 ·cases hk
 ·rename_i i hi
  split at hk
  ·cases hk
  ·rename_i hc
   split at hk
   ·split at hk
    ·rename_i hb
     split at hk
     ·rename_i ho
      obtain ⟨hj, hk⟩ := br_dec hk
      obtain ⟨q, e1, e2⟩ := purCellsK_spec hk
      split at e2
      ·rename_i hb2
       exact ⟨_, by simp only [storeOp, hi, if_neg hc, hb, hj, ho, and_self, if_true, e1, Option.bind_some, hb2], e2⟩
      ·cases e2
     ·cases hk
    ·cases hk
   ·exact bindK hk

theorem litElsK_spec {e : TypeId} : ∀ {parts : List (Nat × PV)} {h : Heap} {j : Nat} {k : List (List PV) × Heap → Option R}, litElsK br P e h j parts k = some r → ∃ v, litEls P e h j parts = some v ∧ k v = some r
 | [], h, j, k, hk => ⟨_, rfl, hk⟩
 | (i, v) :: rest, h, j, k, hk => by
  simp only [litElsK] at hk
  split at hk
  ·rename_i hc
   obtain ⟨q, e1, e2⟩ := purCellsK_spec hk
   obtain ⟨s, e3, e4⟩ := litElsK_spec e2
   exact ⟨_, by simp only [litEls, if_pos hc, e1, e3, Option.bind_some], e4⟩
  ·cases hk

theorem buildSliceOpK_spec {t : TypeId} {len : Nat} {parts : List (Nat × PV)} {al : Option Nat} {h : Heap} {k : PV × Heap → Option R} (hk : buildSliceOpK br P t len parts al h k = some r) : ∃ v, buildSliceOp P t len parts al h = some v ∧ k v = some r := by
 unfold buildSliceOpK at hk
 split at hk
 ·rename_i hu
  obtain ⟨sz, e1, e2⟩ := bindK hk
  split at e2
  ·rename_i hc
   obtain ⟨q, e3, e4⟩ := litElsK_spec e2
   exact ⟨_, by simp only [buildSliceOp, hu, e1, Option.bind_some, if_pos hc, e3], e4⟩
  ·cases e2
 ·cases hk

theorem makeSliceOpK_spec {t : TypeId} {len cap : PV} {al : Option Nat} {h : Heap} {k : PV × Heap → Option R} (hk : makeSliceOpK br P t len cap al h k = some r) : ∃ v, makeSliceOp P t len cap al h = some v ∧ k v = some r := by
 unfold makeSliceOpK at hk
 split at hk
 ·rename_i hu
  obtain ⟨sz, e1, e2⟩ := bindK hk
  obtain ⟨i, e3, e4⟩ := bindK e2
  obtain ⟨z, e5, e6⟩ := bindK e4
  obtain ⟨hc, e6⟩ := br_dec e6
  rw [br_if] at e6
  split at e6
  ·rename_i hn; exact ⟨_, by simp only [makeSliceOp, hu, e1, e3, e5, Option.bind_some, if_pos hc, if_pos (of_decide_eq_true hn)], e6⟩
  ·rename_i hn; exact ⟨_, by simp only [makeSliceOp, hu, e1, e3, e5, Option.bind_some, if_pos hc, if_neg (by simpa using hn)], e6⟩
 ·cases hk

theorem makeSliceEqK_spec {t : TypeId} {len : PV} {al : Option Nat} {h : Heap} {k : PV × Heap → Option R} (hk : makeSliceEqK br P t len al h k = some r) : ∃ v, makeSliceOp P t len len al h = some v ∧ k v = some r := by
 unfold makeSliceEqK at hk
 split at hk
 ·rename_i hu
  obtain ⟨sz, e1, e2⟩ := bindK hk
  obtain ⟨i, e3, e4⟩ := bindK e2
  obtain ⟨z, e5, e6⟩ := bindK e4
  obtain ⟨hc, e6⟩ := br_dec e6
  exact ⟨_, by simp only [makeSliceOp, hu, e1, e3, e5, Option.bind_some, if_pos hc, if_true], e6⟩
 ·cases hk

theorem tailK_spec {h : Heap} {e : TypeId} {x : PV} {k : List (List PV) → Option R} (hk : tailK br P h e x k = some r) : ∃ v, tail P h e x = some v ∧ k v = some r := by
 unfold tailK at hk
 split at hk
 ·split at hk
  ·rename_i hc; exact ⟨_, by simp only [tail, if_pos hc], hk⟩
  ·cases hk
 ·rename_i hne
  obtain ⟨c, e1, e2⟩ := contentK_spec hk
  split at e2
  ·rename_i hc
   refine ⟨_, ?_, e2⟩
   unfold tail
   split
   ·exact absurd rfl (hne _)
   ·simp only [e1, Option.bind_some, if_pos hc]
  ·cases e2

theorem appendOpK_spec {tys : Array TypeId} {h : Heap} {s x : PV} {al : Option Nat} {k : PV × Heap → Option R} (hk : appendOpK br P tys h s x al k = some r) : ∃ v, appendOp P tys h s x al = some v ∧ k v = some r := by
 unfold appendOpK at hk
 split at hk
 ·rename_i h0 h1
  split at hk
  all_goals first | (cases hk; done) | skip
  all_goals
   rename_i hu
   obtain ⟨e, e1, hk⟩ := bindK hk
   obtain ⟨sz, e2, hk⟩ := bindK hk
   obtain ⟨i, e3, hk⟩ := bindK hk
   obtain ⟨c, e4, hk⟩ := contentK_spec hk
   obtain ⟨ys, e5, hk⟩ := tailK_spec hk
   split at hk
   ·rename_i hc
    obtain ⟨hl, hk⟩ := br_dec hk
    obtain ⟨h', e6, hk⟩ := bindK hk
    exact ⟨_, by simp only [appendOp, h0, h1, hu, e1, e2, e3, e4, e5, Option.bind_some, hc, hl, and_self, if_true, e6], hk⟩
   ·cases hk
 ·cases hk

theorem mapUpdateOpK_spec {t : TypeId} {h : Heap} {m ky x : PV} {k : Heap → Option R} (hk : mapUpdateOpK br P t h m ky x k = some r) : ∃ v, mapUpdateOp P t h m ky x = some v ∧ k v = some r := by
 unfold mapUpdateOpK at hk
 unfold mapUpdateOp
 split at hk
 ·dsimp only
  split at hk
  ·rename_i hb
   simp only [hb]
   split at hk
   ·rename_i hm
    rw [if_pos hm]
    split at hk
    ·obtain ⟨v, e1, e2⟩ := bindK hk
     exact ⟨_, by simp only [e1, Option.map_some], e2⟩
    ·obtain ⟨v, e1, e2⟩ := bindK hk
     obtain ⟨hs, e2⟩ := br_dec e2
     exact ⟨_, by (try dsimp only); rw [if_pos hs, e1, Option.map_some], e2⟩
    ·cases hk
   ·cases hk
  ·cases hk
 ·cases hk

theorem lenOpK_spec {t : TypeId} {h : Heap} {x : PV} {k : PV → Option R} (hk : lenOpK br P t h x k = some r) : ∃ v, lenOp P t h x = some v ∧ k v = some r := by
 unfold lenOpK at hk
 split at hk
 ·rename_i hu
  split at hk
  ·rename_i hb
   obtain ⟨hl, hk⟩ := br_dec hk
   exact ⟨_, by simp only [lenOp, hu, hb, if_pos hl], hk⟩
  ·cases hk
 ·exact bindK hk

theorem view1K_spec {h : Heap} {x : PV} {k : PV → Option R} (hk : view1K br h x k = some r) : ∃ v, view1 h x = some v ∧ k v = some r := by
 unfold view1K at hk
 split at hk
 ·obtain ⟨c, e1, e2⟩ := contentK_spec hk
  obtain ⟨v, e3, e4⟩ := bindK e2
  exact ⟨v, by simp only [view1, e1, Option.bind_some, e3], e4⟩
 ·exact bindK hk

theorem mapK_spec {α β : Type} {f : α → (β → Option R) → Option R} {g : α → Option β} (hf : ∀ x k r, f x k = some r → ∃ v, g x = some v ∧ k v = some r) : ∀ {xs : List α} {k : List β → Option R} {r : R}, mapK f xs k = some r → ∃ v, mapO g xs = some v ∧ k v = some r
 | [], k, r, hk => ⟨_, rfl, hk⟩
 | x :: xs, k, r, hk => by
  simp only [mapK] at hk
  obtain ⟨v, e1, e2⟩ := hf _ _ _ hk
  obtain ⟨vs, e3, e4⟩ := mapK_spec hf e2
  exact ⟨_, by simp only [mapO, e1, e3, Option.bind_some], e4⟩

theorem viewK_spec {h : Heap} {x : PV} {k : PV → Option R} (hk : viewK br h x k = some r) : ∃ v, view h x = some v ∧ k v = some r := by
 unfold viewK at hk
 split at hk
 ·obtain ⟨v, e1, e2⟩ := mapK_spec (g := view1 h) (fun x k r hk => view1K_spec hk) hk
  exact ⟨_, by simp only [view, e1, Option.map_some], e2⟩
 ·rename_i hne
  obtain ⟨v, e1, e2⟩ := view1K_spec hk
  refine ⟨v, ?_, e2⟩
  unfold view
  split
  ·exact absurd rfl (hne _)
  ·exact e1

/-- what CK tells, one of some tables tells -/
def CallKIn (S : CallF → Prop) (CK : CallK R) : Prop := ∀ f xs hc k r, CK f xs hc k = some r → ∃ C y, S C ∧ C f xs hc = some y ∧ k y = some r

theorem callCoreK_spec {CK : CallK R} {S : CallF → Prop} (hC : CallKIn S CK) {M : FuncId → Bool} {al : Option Nat} {h : Heap} {f : FuncId} {xs : List PV} {k : (PV × Heap) × Foot → Option R} (hk : callCoreK br P CK M al h f xs k = some r) :
  ∃ C v, S C ∧ callCore P C M al h f xs = some v ∧ k v = some r := by
 unfold callCoreK at hk
 have h1 : ∃ ys, (if M f then some xs else mapO (view h) xs) = some ys ∧ ((reach h (ys.flatMap refs)).bind fun ids =>
   if ys.all sh && (M f || (xs.flatMap refs).all fun b => match h[b]? with | some (.arr _ _ _) => !ids.contains b | _ => true) then
    CK f (ys.map (ren ids.idxOf)) (heapOf h ids) fun r =>
     let vids := (xs.flatMap refs).filter fun b => !ids.contains b
     let h1 := if ids.isEmpty && flatR P r.2 r.1 then h else vids.foldl freeze h
     let g := fwd ids (baseOf al h)
     let bs := r.2.map (renBlk g)
     if resFree h al (bs.drop ids.length).length && r.2.all okBlk && shR r.1 then
      k ((renR g r.1, addMany al (setMany h1 ids (bs.take ids.length)) (bs.drop ids.length)),
       (xs.flatMap refs ++ ids ++ slotIds al (bs.drop ids.length).length, (if ids.isEmpty && flatR P r.2 r.1 then [] else ids ++ vids) ++ slotIds al (bs.drop ids.length).length))
     else none
   else none) = some r := by
  dsimp only at hk
  split at hk
  ·rename_i hM
   exact ⟨xs, by rw [if_pos hM], hk⟩
  ·rename_i hM
   obtain ⟨ys, e1, e2⟩ := mapK_spec (g := view h) (fun x k r hk => viewK_spec hk) hk
   exact ⟨ys, by rw [if_neg hM]; exact e1, e2⟩
 obtain ⟨ys, e1, e2⟩ := h1
 obtain ⟨ids, e3, e4⟩ := bindK e2
 split at e4
 ·rename_i hsh
  obtain ⟨C, y, eS, e5, e6⟩ := hC _ _ _ _ _ e4
  dsimp only at e6
  split at e6
  ·rename_i hok
   refine ⟨C, _, eS, ?_, e6⟩
   unfold callCore
   simp only [e1, e3, Option.bind_some]
   refine (if_pos hsh).trans ?_
   rw [e5]
   simp only [Option.bind_some]
   exact if_pos hok
  ·cases e6
 ·cases e4

theorem externOpK_spec {e : Bool} {xs : List PV} {k : PV → Option R} {r : R} (hk : externOpK br e xs k = some r) : ∃ v, externOp e xs = some v ∧ k v = some r := by
 unfold externOpK at hk
 split at hk
 ·rename_i x y c
  rw [br_if] at hk
  split at hk
  ·rename_i h
   exact ⟨_, by simp only [externOp, h, if_true], hk⟩
  ·cases hk
 ·cases hk

theorem doOpK_spec {CK : CallK R} {S : CallF → Prop} (hC : CallKIn S CK) (hS : ∃ C, S C) {M : FuncId → Bool} {al : Option Nat} {ts : List PV} {h : Heap} {op : Op} {k : (PV × Heap) × Foot → Option R} (hk : doOpK br P CK M al ts h op k = some r) :
  ∃ C v, S C ∧ doOpF P C M al ts h op = some v ∧ k v = some r := by
 obtain ⟨C, hCS⟩ := hS
 have kv : ∀ {g : Option PV}, (∃ v, g = some v ∧ k ((v, h), footOp al ts op) = some r) → ∃ C v, S C ∧ (keep h g).map (fun r => (r, footOp al ts op)) = some v ∧ k v = some r := by
  rintro g ⟨v, rfl, e⟩
  exact ⟨C, _, hCS, rfl, e⟩
 have kf : ∀ {g : Option (PV × Heap)}, (∃ v, g = some v ∧ k (v, footOp al ts op) = some r) → ∃ C v, S C ∧ g.map (fun r => (r, footOp al ts op)) = some v ∧ k v = some r := by
  rintro g ⟨v, rfl, e⟩
  exact ⟨C, _, hCS, rfl, e⟩
 have other : (doOp P (fun _ _ _ => none) M al ts h op).bind (fun v => k (v, footOp al ts op)) = some r → doOp P C M al ts h op = doOp P (fun _ _ _ => none) M al ts h op →
   ∃ C v, S C ∧ (doOp P C M al ts h op).map (fun r => (r, footOp al ts op)) = some v ∧ k v = some r := by
  intro hk e
  obtain ⟨v, e1, e2⟩ := bindK hk
  exact ⟨C, _, hCS, by rw [e, e1]; rfl, e2⟩
 cases op <;> simp only [doOpK] at hk <;> simp only [doOpF]
 case buildSlice t len ps => simp only [doOp]; exact kf (buildSliceOpK_spec hk)
 case load t a => simp only [doOp]; exact kv (loadOpK_spec hk)
 case store t a x =>
  simp only [doOp]
  obtain ⟨v, e1, e2⟩ := storeOpK_spec hk
  exact ⟨C, _, hCS, by simp only [e1, Option.map_some], e2⟩
 case binOp o t x y p => simp only [doOp]; exact kv (binOpK_spec hk)
 case makeSlice t l c =>
  simp only [doOp]
  split at hk
  ·rename_i e
   have e := sameOp_eq e
   subst e
   exact kf (makeSliceEqK_spec hk)
  ·exact kf (makeSliceOpK_spec hk)
 case mapUpdate t m ky x =>
  simp only [doOp]
  obtain ⟨v, e1, e2⟩ := mapUpdateOpK_spec hk
  exact ⟨C, _, hCS, by simp only [e1, Option.map_some], e2⟩
 case makeMap t o => exact other hk (by cases o <;> rfl)
 case lookup t m ky ok => exact other hk (by cases ok <;> rfl)
 case slice t x lo hi mx => simp only [doOp]; exact kv (sliceOpK_spec hk)
 case indexAddr t x i => simp only [doOp]; exact kv (indexAddrOpK_spec hk)
 case index t x i => simp only [doOp]; exact kv (indexOpK_spec hk)
 case call c =>
  cases hc : c.callee with
  | builtin b =>
   simp only [hc, doOp] at hk ⊢
   cases b
   case len =>
    simp only at hk
    split at hk
    ·rename_i x hx
     split at hk
     ·rename_i t ht
      obtain ⟨v, e1, e2⟩ := lenOpK_spec hk
      exact ⟨C, _, hCS, by simp only [hx, builtinOp, ht, e1, Option.map_some], e2⟩
     ·cases hk
    ·cases hk
   case append =>
    simp only at hk
    split at hk
    ·rename_i s x hx
     obtain ⟨v, e1, e2⟩ := appendOpK_spec hk
     exact ⟨C, _, hCS, by simp only [hx, builtinOp, e1, Option.map_some], e2⟩
    ·cases hk
   all_goals exact kf (bindK hk)
  | invoke rc m =>
   simp only [hc] at hk ⊢
   split at hk
   ·rename_i g y hg
    simp only [hg]
    exact callCoreK_spec hC hk
   ·cases hk
  | value f =>
   simp only [hc] at hk ⊢
   split at hk
   ·rename_i g caps hg
    simp only [hg]
    split at hk
    ·rename_i e he
     obtain ⟨v, e1, e2⟩ := externOpK_spec hk
     exact ⟨C, _, hCS, by simp only [he, e1, keep, Option.map_some], e2⟩
    ·rename_i he
     simp only [he]
     exact callCoreK_spec hC hk
   ·cases hk
 case makeFunc fn first caps => exact other hk (by cases fn <;> rfl)
 all_goals exact other hk (by simp only [doOp])

end
end Go.Pu
