/- The pure machine, twenty-second part: an operation looks at few blocks (the operations). -/
import Derived.Test.YtkaljlpbmbfpgaaGreatDoorRU
set_option linter.unusedSimpArgs false
set_option linter.unusedVariables false
namespace Go.Pu

theorem Lcl.bindH {α : Type} {S : List Nat} {D : Heap → Option Heap} {U : Heap → Option (α × Heap)} (hD : Lcl S fun h => (D h).map fun h' => ((), h')) (hU : Lcl S U) : Lcl S fun h => (D h).bind U := by
 have := hD.bind (U := fun _ h => U h) fun _ => hU
 refine ⟨fun h h2 a h' hA e => ?_⟩
 have hc : ∀ h, (((D h).map fun h' => ((), h')).bind fun r => U r.2) = (D h).bind U := fun h => by cases D h <;> rfl
 obtain ⟨k, e1, e2, e3, e4⟩ := this.out h h2 a h' hA (by rw [hc]; exact e)
 exact ⟨k, by rw [← hc]; exact e1, e2, e3, e4⟩

theorem buildSliceOp_lcl (P : Program) (t : TypeId) (len : Nat) (parts : List (Nat × PV)) (s : Nat) : Lcl ((parts.flatMap fun p => refs p.2) ++ [s]) fun h => buildSliceOp P t len parts (some s) h := by
 unfold buildSliceOp
 split
 ·rename_i e hu
  cases elSize P e with
  | none => exact Lcl.none
  | some sz =>
   simp only [Option.bind_some]
   refine Lcl.ite fun _ => Lcl.bind (U := fun es h => some (PV.all s, h.set s (.arr e es true))) ((litEls_lcl P e parts 0).mono fun b hb => List.mem_append_left _ hb) fun es => ?_
   exact Lcl.set (s := s) (by simp) _ _
 ·exact Lcl.none

theorem makeSliceOp_lcl (P : Program) (t : TypeId) (len cap : PV) (s : Nat) : Lcl [s] fun h => makeSliceOp P t len cap (some s) h := by
 unfold makeSliceOp
 split
 ·rename_i e n c hu
  cases elSize P e with
  | none => exact Lcl.none
  | some sz =>
  cases P.info? e with
  | none => exact Lcl.none
  | some i =>
  cases zeroEl P e with
  | none => exact Lcl.none
  | some z =>
   simp only [Option.bind_some]
   exact Lcl.ite fun _ => Lcl.set (S := [s]) (s := s) (by simp) (if n = c then PV.all s else PV.own s 0 n.toNat) (.arr e (List.replicate n.toNat z) true)
 ·exact Lcl.none

theorem drop1_lcl (x : PV) : Lcl (refs1 x) fun h => (drop1 h x).map fun h' => ((), h') := by
 have go : ∀ b : Nat, b ∈ refs1 x → Lcl (refs1 x) fun h => ((match h[b]? with | some (.arr _ _ true) => some (h.set b .dead) | _ => none : Option Heap)).map fun h' => ((), h') := by
  intro b hb
  refine ⟨fun h h2 a h' hA e => ?_⟩
  rw [hA.2 b hb]
  split at e
  ·exact (Lcl.set (S := refs1 x) hb () Blk.dead).out h h2 a h' hA e
  ·cases e
 cases x
 case new t es => cases es <;> first
  | exact Lcl.pure _
  | exact Lcl.none
 all_goals first
  | exact go _ (by simp [refs1])
  | exact Lcl.pure _
  | exact Lcl.none

theorem tail_agree {P : Program} {h h2 : Heap} {e : TypeId} {x : PV} (hA : ∀ b ∈ refs1 x, h2[b]? = h[b]?) : tail P h2 e x = tail P h e x := by
 unfold tail
 split
 ·rfl
 ·rw [content_agree hA]

theorem appendOp_lcl (P : Program) (tys : Array TypeId) (x y : PV) (s : Nat) : Lcl (refs x ++ refs y ++ [s]) fun h => appendOp P tys h x y (some s) := by
 unfold appendOp
 split
 ·rename_i sT xT h0 h1
  have key : Lcl (refs x ++ refs y ++ [s]) fun h => (elemOf P sT).bind fun e => (elSize P e).bind fun _ => (P.info? e).bind fun i => (content h x).bind fun c => (tail P h e y).bind fun ys =>
    if (c.1 = none ∨ c.1 = some e) ∧ (c.2.length + ys.length) * i.bytes ≤ 140737488355328 ∧ 0 < i.bytes then
     (drop1 h x).bind fun h' => let r := allocAt (some s) h' (.arr e (c.2 ++ ys) true); some (PV.all r.1, r.2)
    else none := by
   cases elemOf P sT with
   | none => exact Lcl.none
   | some e =>
   simp only [Option.bind_some]
   cases elSize P e with
   | none => exact Lcl.none
   | some sz =>
   simp only [Option.bind_some]
   cases P.info? e with
   | none => exact Lcl.none
   | some i =>
   simp only [Option.bind_some]
   refine Lcl.read (fun h k hA => content_agree fun b hb => hA.2 b (by simp; exact .inl (refs1_refs hb))) fun c => ?_
   refine Lcl.read (fun h k hA => tail_agree fun b hb => hA.2 b (by simp; exact .inr (.inl (refs1_refs hb)))) fun ys => ?_
   refine Lcl.ite fun _ => Lcl.bindH ((drop1_lcl x).mono fun b hb => by simp; exact .inl (refs1_refs hb)) ?_
   exact Lcl.set (S := refs x ++ refs y ++ [s]) (s := s) (by simp) (PV.all s) (.arr e (c.2 ++ ys) true)
  split
  ·exact key
  ·exact key
  ·exact Lcl.none
 ·exact Lcl.none

theorem all_okv_agree {h h2 : Heap} {xs : List PV} (hA : ∀ b ∈ xs.flatMap refs1, h2[b]? = h[b]?) : xs.all (okv h2) = xs.all (okv h) := by
 induction xs with
 | nil => rfl
 | cons x xs ih =>
  simp only [List.all_cons]
  rw [okv_agree fun b hb => hA b (by simp; exact .inl hb), ih fun b hb => hA b (by simp at hb ⊢; exact .inr hb)]

theorem storeOp_lcl (P : Program) (t : TypeId) (a x : PV) : Lcl (refs a ++ refs x) fun h => (storeOp P t h a x).map fun h' => (PV.top, h') := by
 refine ⟨fun h h2 r h' hA e => ?_⟩
 unfold storeOp at e ⊢
 cases hi : P.info? t with
 | none => simp [hi] at e
 | some i =>
  simp only [hi] at e ⊢
  rw [okv_agree (h := h) (h2 := h2) fun b hb => hA.2 b (by simp; exact .inr (refs1_refs hb)), all_okv_agree (h := h) (h2 := h2) fun b hb => hA.2 b (by simp; exact .inr (cells_refs hb))]
  split at e
  ·cases e
  ·rename_i hc
   rw [if_neg hc]
   cases a <;> first | (cases e; done) | skip
   case ptr b off =>
    have hbS : b ∈ refs (.ptr b off) ++ refs x := by simp [refs, refs1]
    dsimp only at e ⊢
    rw [hA.2 b hbS]
    split at e
    ·rename_i T cs hb
     split at e
     ·rename_i hl
      rw [if_pos hl]
      simp only [Option.map_some] at e ⊢
      exact (Lcl.set hbS PV.top _).out h h2 r h' hA e
     ·cases e
    ·cases e
   case aptr b j off =>
    have hbS : b ∈ refs (.aptr b j off) ++ refs x := by simp [refs, refs1]
    dsimp only at e ⊢
    rw [hA.2 b hbS]
    split at e
    ·rename_i T es hb
     split at e
     ·rename_i hl
      rw [if_pos hl]
      cases hp : purCells h (((kds P T).drop off).take i.size) x.cells with
      | none => simp [hp] at e
      | some q =>
       obtain ⟨q1, q2⟩ := q
       obtain ⟨k2, e1, e2, e3, e4⟩ := ((purCells_lcl (((kds P T).drop off).take i.size) x.cells).mono (S := refs (.aptr b j off) ++ refs x) fun c hc => List.mem_append_right _ (cells_refs hc)).out h h2 q1 q2 hA hp
       rw [hp] at e
       rw [e1]
       simp only [Option.bind_some] at e ⊢
       rw [e2.2 b hbS]
       split at e
       ·simp only [Option.map_some] at e ⊢
        obtain ⟨k3, f1, f2, f3, f4⟩ := (Lcl.set hbS PV.top _).out q2 k2 r h' e2 e
        exact ⟨k3, f1, f2, f3.trans e3, fun c hc => ⟨(f4 c hc).1.trans (e4 c hc).1, (f4 c hc).2.trans (e4 c hc).2⟩⟩
       ·cases e
     ·cases e
    ·cases e

theorem makeMapOp_lcl (P : Program) (t : TypeId) (s : Nat) : Lcl [s] fun h => makeMapOp P t (some s) h := by
 unfold makeMapOp
 cases mapOf P t with
 | none => exact Lcl.none
 | some e =>
  simp only [Option.bind_some]
  exact Lcl.ite fun _ => Lcl.set (S := [s]) (s := s) (by simp) (PV.mp s) (.map e [] .live)

theorem Lcl.set2 {α : Type} {S : List Nat} {s b : Nat} (hs : s ∈ S) (hb : b ∈ S) (a : α) (x y : Blk) : Lcl S fun h => some (a, (h.set b x).set s y) := by
 have := (Lcl.set (S := S) hb a x).bind (U := fun a h => some (a, h.set s y)) fun a => Lcl.set hs a y
 exact this

theorem lookupOp_lcl (P : Program) (t : TypeId) (m k : PV) (s : Nat) : Lcl (refs m ++ refs k ++ [s]) fun h => lookupOp P t (some s) h m k := by
 refine ⟨fun h h2 a h' hA e => ?_⟩
 unfold lookupOp at e ⊢
 split at e
 ·rename_i b s'
  have hb : b ∈ refs (.mp b) ++ refs (.str s') ++ [s] := by simp [refs, refs1]
  dsimp only at e ⊢
  rw [hA.2 b hb]
  split at e
  ·rename_i el es st hg
   split at e
   ·rename_i hm
    rw [if_pos hm]
    split at e
    ·rename_i u hkd
     exact (Lcl.set2 (S := refs (.mp b) ++ refs (.str s') ++ [s]) (s := s) (b := b) (by simp) hb (PV.all s) _ _).out h h2 a h' hA e
    ·rename_i u hkd
     exact (Lcl.pure _).out h h2 a h' hA e
    ·rename_i hkd
     exact (Lcl.pure _).out h h2 a h' hA e
    ·rename_i hkd
     exact (Lcl.pure _).out h h2 a h' hA e
    ·cases e
   ·cases e
  ·cases e
 ·cases e

theorem mapVal_lcl (kd : Kd) (x : PV) : Lcl (refs x) fun h => mapVal h kd x := by
 refine ⟨fun h h2 a h' hA e => ?_⟩
 unfold mapVal at e ⊢
 split at e
 ·rename_i u b
  have hb : b ∈ refs (.all b) := by simp [refs, refs1]
  try dsimp only at e ⊢
  rw [hA.2 b hb]
  split at e
  ·rename_i u' rows hg
   split at e
   ·rename_i hu
    rw [if_pos hu]
    exact (Lcl.set hb _ _).out h h2 a h' hA e
   ·cases e
  ·cases e
 ·exact (Lcl.pure _).out h h2 a h' hA e
 ·cases e

theorem mapUpdateOp_lcl (P : Program) (t : TypeId) (m k x : PV) : Lcl (refs m ++ refs k ++ refs x) fun h => (mapUpdateOp P t h m k x).map fun h' => (PV.top, h') := by
 refine ⟨fun h h2 a h' hA e => ?_⟩
 unfold mapUpdateOp at e ⊢
 split at e
 ·rename_i b s'
  have hb : b ∈ refs (.mp b) ++ refs (.str s') ++ refs x := by simp [refs, refs1]
  have key : ∀ (el : TypeId) (es : List (List PV)), ((mapVal h (kdOf P el) x).map fun r => r.2.set b (.map el (putM es s' r.1) .live)).map (fun h' => (PV.top, h')) = some (a, h') →
    ∃ h2', ((mapVal h2 (kdOf P el) x).map fun r => r.2.set b (.map el (putM es s' r.1) .live)).map (fun h' => (PV.top, h')) = some (a, h2') ∧ Agree (refs (.mp b) ++ refs (.str s') ++ refs x) h' h2' ∧ h'.length = h.length ∧ ∀ c, c ∉ refs (.mp b) ++ refs (.str s') ++ refs x → h'[c]? = h[c]? ∧ h2'[c]? = h2[c]? := by
   intro el es e
   have := ((mapVal_lcl (kdOf P el) x).mono (S := refs (.mp b) ++ refs (.str s') ++ refs x) fun c hc => List.mem_append_right _ hc).bind (U := fun v h => some (PV.top, h.set b (.map el (putM es s' v) .live))) fun v => Lcl.set hb PV.top _
   have hc : ∀ h, ((mapVal h (kdOf P el) x).map fun r => r.2.set b (.map el (putM es s' r.1) .live)).map (fun h' => (PV.top, h')) = (mapVal h (kdOf P el) x).bind fun r => some (PV.top, r.2.set b (.map el (putM es s' r.1) .live)) := fun h => by cases mapVal h (kdOf P el) x <;> rfl
   obtain ⟨k, e1, e2, e3, e4⟩ := this.out h h2 a h' hA (by rw [← hc]; exact e)
   exact ⟨k, by rw [hc]; exact e1, e2, e3, e4⟩
  try dsimp only at e ⊢
  rw [hA.2 b hb]
  split at e
  ·rename_i el es st hg
   split at e
   ·rename_i hm
    rw [if_pos hm]
    split at e
    ·exact key _ _ e
    ·split at e
     ·rename_i hs
      try dsimp only
      rw [if_pos hs]
      exact key _ _ e
     ·cases e
    ·cases e
   ·cases e
  ·cases e
 ·cases e

end Go.Pu
