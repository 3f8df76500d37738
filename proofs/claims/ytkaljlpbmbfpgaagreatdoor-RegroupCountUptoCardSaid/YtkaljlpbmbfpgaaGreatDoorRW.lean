/- The pure machine, twenty-third part: an operation looks at few blocks (calls; all operations). -/
import Derived.Test.YtkaljlpbmbfpgaaGreatDoorRV
set_option linter.unusedSimpArgs false
set_option linter.unusedVariables false
namespace Go.Pu

structure LocOut (W : List Nat) (h h' h2 h2' : Heap) : Prop where
 l1 : h'.length = h.length
 l2 : h2'.length = h2.length
 on : ∀ b ∈ W, h2'[b]? = h'[b]?
 off : ∀ b, b ∉ W → h'[b]? = h[b]? ∧ h2'[b]? = h2[b]?

theorem mapO_congr {α β : Type} {g g' : α → Option β} : ∀ {xs : List α}, (∀ x ∈ xs, g x = g' x) → mapO g xs = mapO g' xs
 | [], _ => rfl
 | x :: xs, h => by
  simp only [mapO]
  rw [h x (by simp), mapO_congr fun y hy => h y (by simp [hy])]

theorem view1_agree {h h2 : Heap} {x : PV} (hA : ∀ b ∈ refs1 x, h2[b]? = h[b]?) : view1 h2 x = view1 h x := by
 unfold view1
 split
 ·rw [content_agree hA]
 ·rw [content_agree hA]
 ·rfl

theorem view_agree {h h2 : Heap} {x : PV} (hA : ∀ b ∈ refs x, h2[b]? = h[b]?) : view h2 x = view h x := by
 unfold view
 split
 ·rename_i cs
  rw [mapO_congr fun c hc => view1_agree fun b hb => hA b (List.mem_flatMap.2 ⟨c, hc, hb⟩)]
 ·exact view1_agree fun b hb => hA b (refs1_refs hb)

theorem addNew_left : ∀ {l acc : List Nat} {b : Nat}, b ∈ acc → b ∈ addNew acc l
 | [], acc, b, h => h
 | c :: l, acc, b, h => by
  unfold addNew
  exact addNew_left (l := l) (by split <;> simp [h])

theorem boxRefs_agree {h h2 : Heap} {b : Nat} (e : h2[b]? = h[b]?) : boxRefs h2 b = boxRefs h b := by
 unfold boxRefs; rw [e]

theorem close_left {h : Heap} : ∀ {n : Nat} {l : List Nat} {b : Nat}, b ∈ l → b ∈ close h n l
 | 0, _, _, hb => hb
 | n + 1, _, _, hb => close_left (n := n) (addNew_left hb)

theorem flatMap_congr' {α β : Type} {f g : α → List β} : ∀ {l : List α}, (∀ x ∈ l, f x = g x) → l.flatMap f = l.flatMap g
 | [], _ => rfl
 | x :: l, h => by simp only [List.flatMap_cons]; rw [h x (by simp), flatMap_congr' fun y hy => h y (by simp [hy])]

theorem close_agree {h h2 : Heap} : ∀ {n : Nat} {l : List Nat}, (∀ b ∈ close h n l, h2[b]? = h[b]?) → close h2 n l = close h n l
 | 0, _, _ => rfl
 | n + 1, l, hA => by
  simp only [close] at hA ⊢
  have e : l.flatMap (boxRefs h2) = l.flatMap (boxRefs h) := flatMap_congr' fun b hb => boxRefs_agree (hA b (close_left (addNew_left hb)))
  rw [e]
  exact close_agree hA

theorem all_congr' {α : Type} {f g : α → Bool} : ∀ {l : List α}, (∀ x ∈ l, f x = g x) → l.all f = l.all g
 | [], _ => rfl
 | x :: l, h => by simp only [List.all_cons]; rw [h x (by simp), all_congr' fun y hy => h y (by simp [hy])]

theorem getD_agree {h h2 : Heap} {b : Nat} (e : h2[b]? = h[b]?) (d : Blk) : h2.getD b d = h.getD b d := by simp only [List.getD, e]

theorem reach_agree {h h2 : Heap} {roots ids : List Nat} (hr : reach h roots = some ids) (hA : ∀ b ∈ ids, h2[b]? = h[b]?) : reach h2 roots = some ids := by
 unfold reach at hr ⊢
 dsimp only at hr ⊢
 split at hr
 ·rename_i hc
  have hids := Option.some.inj hr
  have e1 : close h2 3 (addNew [] roots) = close h 3 (addNew [] roots) := close_agree fun b hb => hA b (by rw [← hids]; exact hb)
  rw [e1, hids]
  rw [hids] at hc
  rw [all_congr' (f := fun b => okBlk (h2.getD b .res)) (g := fun b => okBlk (h.getD b .res)) fun b hb => by rw [getD_agree (hA b hb)],
   flatMap_congr' (f := boxRefs h2) (g := boxRefs h) fun b hb => boxRefs_agree (hA b hb)]
  rw [if_pos hc]
 ·cases hr

theorem heapOf_agree {h h2 : Heap} {ids : List Nat} (hA : ∀ b ∈ ids, h2[b]? = h[b]?) : heapOf h2 ids = heapOf h ids := by
 unfold heapOf
 exact List.map_congr_left fun b hb => by rw [getD_agree (hA b hb)]

theorem frz_frz (o : Option Blk) : (o.map frz).map frz = o.map frz := by
 cases o with
 | none => rfl
 | some x => cases x <;> rfl

theorem freezes_get : ∀ (l : List Nat) (h : Heap) (i : Nat), (l.foldl freeze h)[i]? = if i ∈ l then (h[i]?).map frz else h[i]?
 | [], h, i => by simp
 | b :: l, h, i => by
  simp only [List.foldl_cons]
  rw [freezes_get l (freeze h b) i, freeze_get]
  by_cases e : b = i
  ·subst e
   by_cases hl : b ∈ l
   ·simp only [hl, if_true, frz_frz, List.mem_cons, true_or]
   ·simp only [hl, if_true, if_false, List.mem_cons, true_or]
  ·have : ¬ i = b := fun h => e h.symm
   simp only [e, if_false, List.mem_cons, this, false_or]

theorem setMany_length : ∀ (is : List Nat) (bs : List Blk) (h : Heap), (setMany h is bs).length = h.length
 | [], _, h => by simp [setMany]
 | _ :: _, [], h => by simp [setMany]
 | i :: is, b :: bs, h => by simp only [setMany]; rw [setMany_length is bs]; simp

theorem setMany_pw : ∀ (is : List Nat) (bs : List Blk) (h h2 : Heap) (i : Nat), h2.length = h.length → h2[i]? = h[i]? → (setMany h2 is bs)[i]? = (setMany h is bs)[i]?
 | [], _, h, h2, i, hl, e => by simpa [setMany] using e
 | _ :: _, [], h, h2, i, hl, e => by simpa [setMany] using e
 | j :: is, b :: bs, h, h2, i, hl, e => by
  simp only [setMany]
  exact setMany_pw is bs _ _ i (by simp [hl]) (by simp only [List.getElem?_set, hl, e])

theorem setMany_off : ∀ (is : List Nat) (bs : List Blk) (h : Heap) (i : Nat), i ∉ is → (setMany h is bs)[i]? = h[i]?
 | [], _, h, i, _ => by simp [setMany]
 | _ :: _, [], h, i, _ => by simp [setMany]
 | j :: is, b :: bs, h, i, hi => by
  simp only [setMany]
  rw [setMany_off is bs _ i fun hh => hi (by simp [hh])]
  have : j ≠ i := fun e => hi (by simp [e])
  simp [List.getElem?_set, this]

theorem resFree_agree {h h2 : Heap} {s n : Nat} (hA : ∀ b ∈ slotIds (some s) n, h2[b]? = h[b]?) : resFree h2 (some s) n = resFree h (some s) n := by
 unfold resFree
 exact all_congr' fun b hb => by rw [hA b hb]

theorem callCore_loc {P : Program} {C : CallF} {M : FuncId → Bool} {s : Nat} {h : Heap} {f : FuncId} {xs : List PV} {z : PV} {h' : Heap} {F : Foot} (hc : callCore P C M (some s) h f xs = some ((z, h'), F)) :
  (∀ b ∈ F.2, b ∈ F.1) ∧ ∀ h2, Agree F.1 h h2 → ∃ h2', callCore P C M (some s) h2 f xs = some ((z, h2'), F) ∧ LocOut F.2 h h' h2 h2' := by
 unfold callCore at hc ⊢
 cases hys : (if M f then some xs else mapO (view h) xs) with
 | none => simp [hys] at hc
 | some ys =>
 cases hrc : reach h (ys.flatMap refs) with
 | none => simp [hys, hrc] at hc
 | some ids =>
 simp only [hys, hrc, Option.bind_some] at hc
 split at hc
 ·rename_i hsh
  cases hcc : C f (ys.map (ren ids.idxOf)) (heapOf h ids) with
  | none => simp [hcc] at hc
  | some r =>
  obtain ⟨r1, r2⟩ := r
  simp only [hcc, Option.bind_some] at hc
  split at hc
  ·rename_i hok
   simp only [Option.some.injEq, Prod.mk.injEq] at hc
   obtain ⟨⟨rfl, rfl⟩, rfl⟩ := hc
   generalize hvd : ((xs.flatMap refs).filter fun b => !ids.contains b) = vids at *
   have hvS : ∀ b ∈ vids, b ∈ xs.flatMap refs := fun b hb => by rw [← hvd] at hb; exact (List.mem_filter.1 hb).1
   generalize hbn : ((r2.map (renBlk (fwd ids (baseOf (some s) h)))).drop ids.length) = new at *
   generalize hbo : ((r2.map (renBlk (fwd ids (baseOf (some s) h)))).take ids.length) = old at *
   refine ⟨fun b hb => ?_, fun h2 hA => ?_⟩
   ·simp only [List.mem_append] at hb ⊢
    rcases hb with hb | hb
    ·split at hb
     ·simp at hb
     ·rcases List.mem_append.1 hb with hb | hb
      ·exact .inl (.inr hb)
      ·exact .inl (.inl (hvS b hb))
    ·exact .inr hb
   ·have a1 : ∀ b ∈ xs.flatMap refs, h2[b]? = h[b]? := fun b hb => hA.2 b (by simp only [List.mem_append]; exact .inl (.inl hb))
    have a2 : ∀ b ∈ ids, h2[b]? = h[b]? := fun b hb => hA.2 b (by simp only [List.mem_append]; exact .inl (.inr hb))
    have a3 : ∀ b ∈ slotIds (some s) new.length, h2[b]? = h[b]? := fun b hb => hA.2 b (by simp only [List.mem_append]; exact .inr hb)
    have hys2 : (if M f then some xs else mapO (view h2) xs) = some ys := by
     rw [← hys]
     split
     ·rfl
     ·exact mapO_congr fun x hx => view_agree fun b hb => a1 b (List.mem_flatMap.2 ⟨x, hx, hb⟩)
    have hall : ∀ p : Nat → Option Blk → Bool, ((xs.flatMap refs).all fun b => p b h2[b]?) = ((xs.flatMap refs).all fun b => p b h[b]?) := fun p => all_congr' fun b hb => by rw [a1 b hb]
    have hsh2 := Eq.trans (congrArg (fun q => ys.all sh && (M f || q)) (hall fun b o => match o with | some (.arr _ _ _) => !ids.contains b | _ => true)) hsh
    simp only [hys2, reach_agree hrc a2, Option.bind_some, heapOf_agree a2, hcc]
    have hbase : baseOf (some s) h2 = baseOf (some s) h := rfl
    simp only [hbase, hbn, hbo, hvd, resFree_agree a3]
    rw [if_pos hok]
    refine ⟨_, (if_pos hsh2).trans rfl, ?_⟩
    generalize hcd : (ids.isEmpty && flatR P r2 r1) = c at *
    have hl1 : ∀ k : Heap, (if c = true then k else vids.foldl freeze k).length = k.length := fun k => by split <;> simp [freezes_length]
    refine ⟨?_, ?_, fun b hb => ?_, fun b hb => ?_⟩
    ·simp only [addMany]; rw [setMany_length, setMany_length, hl1]
    ·simp only [addMany]; rw [setMany_length, setMany_length, hl1]
    ·have hbS : h2[b]? = h[b]? := by
      simp only [List.mem_append] at hb
      rcases hb with hb | hb
      ·split at hb
       ·simp at hb
       ·rcases List.mem_append.1 hb with hb | hb
        ·exact a2 b hb
        ·exact a1 b (hvS b hb)
      ·exact a3 b hb
     simp only [addMany]
     refine setMany_pw _ _ _ _ _ (by rw [setMany_length, setMany_length, hl1, hl1]; exact hA.1) (setMany_pw _ _ _ _ _ (by rw [hl1, hl1]; exact hA.1) ?_)
     split
     ·exact hbS
     ·rw [freezes_get, freezes_get, hbS]
    ·have hb1 : b ∉ List.range' s new.length := fun hh => hb (List.mem_append_right _ hh)
     simp only [addMany]
     rw [setMany_off _ _ _ _ hb1, setMany_off _ _ _ _ hb1]
     cases hcv : c with
     | true =>
      have hid : ids = [] := nils_of_zero (by have := hcd.trans hcv; simp only [Bool.and_eq_true] at this; exact this.1)
      subst hid
      simp [setMany]
     | false =>
      have hb2 : b ∉ ids := fun hh => hb (by rw [hcv]; simp [hh])
      have hb3 : b ∉ vids := fun hh => hb (by rw [hcv]; simp [hh])
      rw [setMany_off _ _ _ _ hb2, setMany_off _ _ _ _ hb2]
      simp only [Bool.false_eq_true, if_false]
      rw [freezes_get, freezes_get, if_neg hb3, if_neg hb3]
      exact ⟨rfl, rfl⟩
  ·cases hc
 ·cases hc

end Go.Pu
