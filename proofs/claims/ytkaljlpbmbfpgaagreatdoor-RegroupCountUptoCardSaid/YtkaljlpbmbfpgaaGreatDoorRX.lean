/- The pure machine, twenty-fourth part: an operation looks at few places and few blocks. -/
import Derived.Test.YtkaljlpbmbfpgaaGreatDoorRW
set_option linter.unusedSimpArgs false
set_option linter.unusedVariables false
namespace Go.Pu

section
variable {ts ts' : List PV}

theorem evs_congr {xs : Array Operand} (hx : ∀ x ∈ xs, ev ts x = ev ts' x) : evs ts xs = evs ts' xs := by
 unfold evs
 exact List.map_congr_left fun x h => hx x (Array.mem_toList_iff.1 h)

theorem evp_congr {ps : Array (Nat × Operand)} (hx : ∀ x ∈ ps.toList.map (·.2), ev ts x = ev ts' x) : evp ts ps = evp ts' ps := by
 unfold evp
 exact List.map_congr_left fun p h => by rw [hx p.2 (List.mem_map.2 ⟨p, h, rfl⟩)]

theorem evo_congr {x : Option Operand} (hx : ∀ y ∈ x.toArray, ev ts y = ev ts' y) : evo ts x = evo ts' x := by
 cases x with
 | none => rfl
 | some y => simp only [evo, Option.map_some]; rw [hx y (by simp)]

theorem doOp_congr {P : Program} {C : CallF} {M : FuncId → Bool} {al : Option Nat} {h : Heap} {op : Op} (hx : ∀ x ∈ op.operands, ev ts x = ev ts' x) : doOp P C M al ts h op = doOp P C M al ts' h op := by
 cases op
 case makeMap t o => cases o <;> rfl
 case lookup t m k ok =>
  cases ok
  ·show lookupOp P t al h (ev ts m) (ev ts k) = lookupOp P t al h (ev ts' m) (ev ts' k)
   rw [hx m (by simp [Op.operands]), hx k (by simp [Op.operands])]
  ·rfl
 all_goals simp only [Op.operands] at hx
 all_goals simp only [doOp]
 case build t ps => rw [evp_congr fun x h => hx x (by simpa using h)]
 case buildSlice t n ps => rw [evp_congr fun x h => hx x (by simpa using h)]
 case makeFunc fn first caps =>
  cases fn <;> simp only
  rw [evs_congr fun x h => hx x (by simp [h])]
 case slice t x lo hi mx =>
  rw [hx x (by simp), evo_congr (x := lo) fun y h => hx y (by simp only [Array.mem_append]; exact .inl (.inl (.inr h))), evo_congr (x := hi) fun y h => hx y (by simp only [Array.mem_append]; exact .inl (.inr h)),
   evo_congr (x := mx) fun y h => hx y (by simp only [Array.mem_append]; exact .inr h)]
 case call c =>
  have ha : evs ts c.args = evs ts' c.args := evs_congr fun x h => hx x (by simp [Call.operands, h])
  rw [ha]
  split
  ·rfl
  ·rename_i f hc
   rw [hx f (by simp [Call.operands, hc])]
  ·rename_i y name hc
   rw [hx y (by simp [Call.operands, hc])]
 all_goals simp_all

theorem footOp_congr {al : Option Nat} {op : Op} (hx : ∀ x ∈ op.operands, ev ts x = ev ts' x) : footOp al ts op = footOp al ts' op := by
 unfold footOp
 rw [flatMap_congr' fun x h => by rw [hx x (Array.mem_toList_iff.1 h)]]

theorem doOpF_congr {P : Program} {C : CallF} {M : FuncId → Bool} {al : Option Nat} {h : Heap} {op : Op} (hx : ∀ x ∈ op.operands, ev ts x = ev ts' x) : doOpF P C M al ts h op = doOpF P C M al ts' h op := by
 unfold doOpF
 rw [footOp_congr hx]
 split
 ·rename_i c
  split
  ·rename_i f hc
   rw [hx f (by simp [Op.operands, Call.operands, hc]), evs_congr fun x h => hx x (by simp [Op.operands, Call.operands, h])]
  ·rename_i y name hc
   rw [hx y (by simp [Op.operands, Call.operands, hc]), evs_congr fun x h => hx x (by simp [Op.operands, Call.operands, h])]
  ·rw [doOp_congr hx]
 ·rw [doOp_congr hx]

end

section
variable {P : Program} {C : CallF} {M : FuncId → Bool} {ts : List PV}

/-- an operation that reads only -/
theorem loc_keep {g : Heap → Option PV} {h h2 : Heap} {W : List Nat} {x : PV} {h' : Heap} (hg : g h2 = g h) (hW : W = []) (hk : keep h (g h) = some (x, h')) :
  ∃ h2', keep h2 (g h2) = some (x, h2') ∧ LocOut W h h' h2 h2' := by
 rw [hg]
 cases hr : g h with
 | none => rw [hr] at hk; cases hk
 | some y =>
  rw [hr] at hk
  simp only [keep, Option.map_some, Option.some.injEq, Prod.mk.injEq] at hk ⊢
  obtain ⟨rfl, rfl⟩ := hk
  refine ⟨h2, ⟨rfl, rfl⟩, rfl, rfl, fun b hb => ?_, fun b _ => ⟨rfl, rfl⟩⟩
  rw [hW] at hb; cases hb

/-- an operation that may write what it looks at -/
theorem loc_lcl {S W : List Nat} {T : Heap → Option (PV × Heap)} (hT : Lcl S T) {h h2 : Heap} {x : PV} {h' : Heap} (hA : Agree S h h2) (hW : ∀ b ∈ S, b ∈ W) (hW2 : ∀ b ∈ W, h2[b]? = h[b]?) (hk : T h = some (x, h')) :
  ∃ h2', T h2 = some (x, h2') ∧ LocOut W h h' h2 h2' := by
 obtain ⟨k, e1, e2, e3, e4⟩ := hT.out h h2 x h' hA hk
 refine ⟨k, e1, e3, by rw [e2.1, e3, ← hA.1], fun b hb => ?_, fun b hb => e4 b fun hh => hb (hW b hh)⟩
 by_cases hS : b ∈ S
 ·exact e2.2 b hS
 ·rw [(e4 b hS).1, (e4 b hS).2]; exact hW2 b hb

theorem foot_refs {al : Option Nat} {op : Op} {h h2 : Heap} (hA : Agree (footOp al ts op).1 h h2) (hp : hands op = false) {y : Operand} (hy : y ∈ op.operands) : ∀ b ∈ refs (ev ts y), h2[b]? = h[b]? := by
 intro b hb
 refine hA.2 b ?_
 simp only [footOp, hp, Bool.false_eq_true, if_false, List.mem_append, List.mem_flatMap]
 exact .inl ⟨y, Array.mem_toList_iff.2 hy, refs_refsT hb⟩

theorem foot_refs1 {al : Option Nat} {op : Op} {h h2 : Heap} (hA : Agree (footOp al ts op).1 h h2) (hp : hands op = false) {y : Operand} (hy : y ∈ op.operands) : ∀ b ∈ refs1 (ev ts y), h2[b]? = h[b]? :=
 fun b hb => foot_refs hA hp hy b (refs1_refs hb)

theorem buildOp_agree {t : TypeId} {h h2 : Heap} {parts : List (Nat × PV)} (hA : ∀ p ∈ parts, ∀ b ∈ refs1 p.2, h2[b]? = h[b]?) : buildOp P t h2 parts = buildOp P t h parts := by
 unfold buildOp
 rw [all_congr' (f := fun p : Nat × PV => okv h2 p.2) (g := fun p => okv h p.2) fun p hp => okv_agree (hA p hp)]

theorem loadOp_agree {t : TypeId} {h h2 : Heap} {a : PV} (hA : ∀ b ∈ refs1 a, h2[b]? = h[b]?) : loadOp P t h2 a = loadOp P t h a := by
 cases a <;> simp only [loadOp]
 case ptr b o => rw [hA b (by simp [refs1])]
 case aptr b i o => rw [hA b (by simp [refs1])]

theorem convertOp_agree {s d : TypeId} {h h2 : Heap} {x : PV} (hA : ∀ b ∈ refs1 x, h2[b]? = h[b]?) : convertOp P s d h2 x = convertOp P s d h x := by
 have e := content_agree hA
 unfold convertOp
 split
 ·rfl
 ·rfl
 ·rw [e]

theorem sliceOp_agree {t : TypeId} {h h2 : Heap} {x : PV} {lo hi mx : Option PV} (hA : ∀ b ∈ refs1 x, h2[b]? = h[b]?) : sliceOp P t h2 x lo hi mx = sliceOp P t h x lo hi mx := by
 unfold sliceOp
 split
 ·unfold sliceZero
  rw [content_agree hA]
 ·split
  ·rfl
  ·cases x <;> simp only [sliceRow]
   case all b => rw [hA b (by simp [refs1])]
   case own b o n => rw [hA b (by simp [refs1])]
  ·rfl

theorem fieldAddrOp_agree {t : TypeId} {h h2 : Heap} {x : PV} {f : Nat} (hA : ∀ b ∈ refs1 x, h2[b]? = h[b]?) : fieldAddrOp P t h2 x f = fieldAddrOp P t h x f := by
 unfold fieldAddrOp
 rw [aliveP_agree hA]

theorem indexAddrOp_agree {t : TypeId} {h h2 : Heap} {x i : PV} (hA : ∀ b ∈ refs1 x, h2[b]? = h[b]?) : indexAddrOp P t h2 x i = indexAddrOp P t h x i := by
 unfold indexAddrOp
 split
 ·split
  ·rfl
  ·cases x <;> simp only
   case all b => rw [hA b (by simp [refs1])]
   case own b o n => rw [hA b (by simp [refs1])]
 ·cases x <;> simp only
  case ptr b o => rw [aliveP_agree hA]
 ·rfl

theorem lenOp_agree {t : TypeId} {h h2 : Heap} {x : PV} (hA : ∀ b ∈ refs1 x, h2[b]? = h[b]?) : lenOp P t h2 x = lenOp P t h x := by
 unfold lenOp
 split
 ·rfl
 ·rename_i b o n _
  rw [hA b (by simp [refs1])]
 ·rw [content_agree hA]
 ·rfl

theorem builtinOp_loc {b : Builtin} {tys : Array TypeId} {al : Option Nat} {h : Heap} {xs : List PV} {x : PV} {h' : Heap} (hal : b = .append → ∃ s, al = some s) (hk : builtinOp P b tys al h xs = some (x, h')) {h2 : Heap}
  (hA : Agree (xs.flatMap refsT ++ slotIds al 1) h h2) : ∃ h2', builtinOp P b tys al h2 xs = some (x, h2') ∧ LocOut ((if b = .append then xs.flatMap refsT else []) ++ (if b = .append then slotIds al 1 else [])) h h' h2 h2' := by
 unfold builtinOp at hk ⊢
 split at hk
 ·rename_i y
  have hr : ∀ c ∈ refs1 y, h2[c]? = h[c]? := fun c hc => hA.2 c (by simp; exact .inl (refs_refsT (refs1_refs hc)))
  split at hk
  ·rename_i t ht
   exact loc_keep (g := fun h => lenOp P t h y) (lenOp_agree hr) (by simp) hk
  ·cases hk
 ·rename_i p q
  obtain ⟨s, rfl⟩ := hal rfl
  refine loc_lcl (appendOp_lcl P tys p q s) (hA.mono fun c hc => ?_) (fun c hc => ?_) (fun c hc => hA.2 c ?_) hk
  ·simp only [List.mem_append, List.flatMap_cons, List.flatMap_nil, slotIds] at hc ⊢
   rcases hc with (hc | hc) | hc
   ·exact .inl (.inl (refs_refsT hc))
   ·exact .inl (.inr (.inl (refs_refsT hc)))
   ·exact .inr (by simpa using hc)
  ·simp only [List.mem_append, List.flatMap_cons, List.flatMap_nil, slotIds, if_true] at hc ⊢
   rcases hc with (hc | hc) | hc
   ·exact .inl (.inl (refs_refsT hc))
   ·exact .inl (.inr (.inl (refs_refsT hc)))
   ·exact .inr (by simpa using hc)
  ·simpa using hc
 ·rename_i y rest
  exact loc_keep (g := fun h => rest.foldl (fun acc y => acc.bind fun a => minmax false a y) (some y)) rfl (by simp) hk
 ·rename_i y rest
  exact loc_keep (g := fun h => rest.foldl (fun acc y => acc.bind fun a => minmax true a y) (some y)) rfl (by simp) hk
 ·cases hk

theorem slotAt_none {o : Oper} {s : Nat} (h : slotsOf o.op = 0) : slotAt o s = none := by simp [slotAt, h]
theorem slotAt_some {o : Oper} {s : Nat} (h : slotsOf o.op ≠ 0) : slotAt o s = some s := by simp [slotAt, h]

theorem doOp_loc {o : Oper} {s : Nat} {h : Heap} {x : PV} {h' : Heap} (hnc : ∀ c, o.op = .call c → ∃ b, c.callee = .builtin b) (hk : doOp P C M (slotAt o s) ts h o.op = some (x, h')) {h2 : Heap}
  (hA : Agree (footOp (slotAt o s) ts o.op).1 h h2) : ∃ h2', doOp P C M (slotAt o s) ts h2 o.op = some (x, h2') ∧ LocOut (footOp (slotAt o s) ts o.op).2 h h' h2 h2' := by
 have W0 : slotsOf o.op = 0 → writesOp o.op = false → (footOp (slotAt o s) ts o.op).2 = [] := fun e1 e2 => by simp [footOp, slotAt_none e1, slotIds, e2]
 have hr1 : hands o.op = false → ∀ y ∈ o.op.operands, ∀ b ∈ refs1 (ev ts y), h2[b]? = h[b]? := fun hp y hy => foot_refs1 hA hp hy
 obtain ⟨dst, op, type, pos, after, guard⟩ := o
 dsimp only at *
 have pureK : ∀ y : PV, slotsOf op = 0 → writesOp op = false → some (y, h) = some (x, h') → ∃ h2', some (y, h2) = some (x, h2') ∧ LocOut (footOp (slotAt ⟨dst, op, type, pos, after, guard⟩ s) ts op).2 h h' h2 h2' := by
  intro y e1 e2 hk
  exact loc_keep (g := fun _ => some y) rfl (W0 e1 e2) hk
 cases op <;> simp only [doOp, Op.operands] at hk hr1 ⊢ <;> try (cases hk; done)
 case move y => exact pureK _ rfl rfl hk
 case assign y => exact pureK _ rfl rfl hk
 case pick c a b =>
  split at hk
  ·exact pureK _ rfl rfl hk
  ·exact pureK _ rfl rfl hk
  ·cases hk
 case alloc t =>
  have hs : slotAt ⟨dst, .alloc t, type, pos, after, guard⟩ s = some s := slotAt_some (by simp [slotsOf])
  rw [hs] at hk hA ⊢
  cases hz : zeroPV P t with
  | none => simp [hz] at hk
  | some z =>
   simp only [hz, Option.map_some] at hk ⊢
   refine loc_lcl (S := [s]) (Lcl.set (S := [s]) (s := s) (by simp) (PV.ptr s 0) (.box t z.cells)) (hA.mono fun c hc => ?_) (fun c hc => ?_) (fun c hc => hA.2 c ?_) hk
   ·simp [footOp, hands, slotIds] at hc ⊢; exact .inr hc
   ·simp [footOp, hands, slotIds, writesOp] at hc ⊢; exact hc
   ·simp [footOp, hands, slotIds, writesOp] at hc ⊢; exact .inr hc
 case box t y =>
  have hs : slotAt ⟨dst, .box t y, type, pos, after, guard⟩ s = some s := slotAt_some (by simp [slotsOf])
  rw [hs] at hk hA ⊢
  rw [okv_agree (h := h) (h2 := h2) (hr1 rfl y (by simp))]
  split at hk
  ·rename_i hok
   rw [if_pos hok]
   refine loc_lcl (S := [s]) (Lcl.set (S := [s]) (s := s) (by simp) (PV.ptr s 0) (.box t (ev ts y).cells)) (hA.mono fun c hc => ?_) (fun c hc => ?_) (fun c hc => hA.2 c ?_) hk
   ·simp [footOp, hands, slotIds] at hc ⊢; exact .inr hc
   ·simp [footOp, hands, slotIds, writesOp] at hc ⊢; exact hc
   ·simp [footOp, hands, slotIds, writesOp] at hc ⊢; exact .inr hc
  ·cases hk
 case build t ps =>
  refine loc_keep (g := fun h => buildOp P t h (evp ts ps)) (buildOp_agree fun p hp => ?_) (W0 rfl rfl) hk
  simp only [evp, List.mem_map] at hp
  obtain ⟨q, hq, rfl⟩ := hp
  exact hr1 rfl q.2 (by simp; exact ⟨q.1, by simpa using hq⟩)
 case buildSlice t n ps =>
  have hs : slotAt ⟨dst, .buildSlice t n ps, type, pos, after, guard⟩ s = some s := slotAt_some (by simp [slotsOf])
  rw [hs] at hk hA ⊢
  have hmem : ∀ b ∈ ((evp ts ps).flatMap fun p => refs p.2), b ∈ ((Op.buildSlice t n ps).operands.toList.flatMap fun x => refsT (ev ts x)) := by
   intro b hb
   simp only [evp, List.mem_flatMap, List.mem_map] at hb
   obtain ⟨p, ⟨q, hq, rfl⟩, hb⟩ := hb
   exact List.mem_flatMap.2 ⟨q.2, by simp [Op.operands]; exact ⟨q.1, by simpa using hq⟩, refs_refsT hb⟩
  refine loc_lcl (buildSliceOp_lcl P t n (evp ts ps) s) (hA.mono fun c hc => ?_) (fun c hc => ?_) (fun c hc => hA.2 c ?_) hk
  ·rcases List.mem_append.1 hc with hc | hc
   ·exact List.mem_append_left _ (hmem c hc)
   ·exact List.mem_append_right _ (by simpa [slotIds] using hc)
  ·rcases List.mem_append.1 hc with hc | hc
   ·exact List.mem_append_left _ (by simpa [writesOp, hands] using hmem c hc)
   ·exact List.mem_append_right _ (by simpa [slotIds] using hc)
  ·simpa [footOp, hands, writesOp] using hc
 case load t y => exact loc_keep (g := fun h => loadOp P t h (ev ts y)) (loadOp_agree (hr1 rfl y (by simp))) (W0 rfl rfl) hk
 case store t a y =>
  have hs : slotAt ⟨dst, .store t a y, type, pos, after, guard⟩ s = none := slotAt_none (by simp [slotsOf])
  rw [hs] at hA ⊢
  refine loc_lcl (storeOp_lcl P t (ev ts a) (ev ts y)) (hA.mono fun c hc => ?_) (fun c hc => ?_) (fun c hc => hA.2 c ?_) hk
  ·rcases List.mem_append.1 hc with hc | hc
   ·exact List.mem_append_left _ (List.mem_flatMap.2 ⟨a, by simp [Op.operands], refs_refsT hc⟩)
   ·exact List.mem_append_left _ (List.mem_flatMap.2 ⟨y, by simp [Op.operands], refs_refsT hc⟩)
  ·refine List.mem_append_left _ ?_
   simp only [writesOp, if_true]
   rcases List.mem_append.1 hc with hc | hc
   ·exact List.mem_flatMap.2 ⟨a, by simp [Op.operands], refs_refsT hc⟩
   ·exact List.mem_flatMap.2 ⟨y, by simp [Op.operands], refs_refsT hc⟩
  ·simpa [footOp, hands, writesOp] using hc
 case nilCheck y =>
  have hal := aliveP_agree (h := h) (h2 := h2) (hr1 rfl y (by simp))
  split at hk
  ·rename_i f cs he
   exact pureK _ rfl rfl hk
  ·rename_i hne
   split at hk
   ·rename_i hok
    rw [if_pos (by rw [hal]; exact hok)]
    exact pureK _ rfl rfl hk
   ·cases hk
 case binOp op t p q pos' => exact loc_keep (g := fun h => binOp P op t (ev ts p) (ev ts q)) rfl (W0 rfl rfl) hk
 case unOp op t p => exact loc_keep (g := fun h => unOp op (ev ts p)) rfl (W0 rfl rfl) hk
 case convert a d p => exact loc_keep (g := fun h => convertOp P a d h (ev ts p)) (convertOp_agree (hr1 rfl p (by simp))) (W0 rfl rfl) hk
 case makeFunc fn first caps =>
  cases fn <;> try (cases hk; done)
  simp only at hk ⊢
  split at hk
  ·rename_i hz
   rw [if_pos hz]
   exact pureK _ rfl rfl hk
  ·cases hk
 case makeSlice t l c =>
  have hs : slotAt ⟨dst, .makeSlice t l c, type, pos, after, guard⟩ s = some s := slotAt_some (by simp [slotsOf])
  rw [hs] at hk hA ⊢
  refine loc_lcl (makeSliceOp_lcl P t (ev ts l) (ev ts c) s) (hA.mono fun c hc => ?_) (fun c hc => ?_) (fun c hc => hA.2 c ?_) hk
  ·exact List.mem_append_right _ (by simpa [slotIds] using hc)
  ·exact List.mem_append_right _ (by simpa [slotIds] using hc)
  ·simpa [footOp, hands, writesOp] using hc
 case makeMap t o =>
  cases o with
  | some y => cases hk
  | none =>
  have hs : slotAt ⟨dst, .makeMap t none, type, pos, after, guard⟩ s = some s := slotAt_some (by simp [slotsOf])
  rw [hs] at hk hA ⊢
  simp only at hk ⊢
  refine loc_lcl (makeMapOp_lcl P t s) (hA.mono fun c hc => ?_) (fun c hc => ?_) (fun c hc => hA.2 c ?_) hk
  ·exact List.mem_append_right _ (by simpa [slotIds] using hc)
  ·exact List.mem_append_right _ (by simpa [slotIds] using hc)
  ·simp [footOp, hands, slotIds, writesOp] at hc ⊢; exact .inr hc
 case lookup t m k ok =>
  cases ok with
  | true => cases hk
  | false =>
  have hs : slotAt ⟨dst, .lookup t m k false, type, pos, after, guard⟩ s = some s := slotAt_some (by simp [slotsOf])
  rw [hs] at hk hA ⊢
  simp only at hk ⊢
  refine loc_lcl (lookupOp_lcl P t (ev ts m) (ev ts k) s) (hA.mono fun c hc => ?_) (fun c hc => ?_) (fun c hc => hA.2 c ?_) hk
  ·rcases List.mem_append.1 hc with hc | hc
   ·refine List.mem_append_left _ ?_
    simp only [hands, Bool.false_eq_true, if_false]
    rcases List.mem_append.1 hc with hc | hc
    ·exact List.mem_flatMap.2 ⟨m, by simp [Op.operands], refs_refsT hc⟩
    ·exact List.mem_flatMap.2 ⟨k, by simp [Op.operands], refs_refsT hc⟩
   ·exact List.mem_append_right _ (by simpa [slotIds] using hc)
  ·rcases List.mem_append.1 hc with hc | hc
   ·refine List.mem_append_left _ ?_
    simp only [hands, writesOp, if_true, Bool.false_eq_true, if_false]
    rcases List.mem_append.1 hc with hc | hc
    ·exact List.mem_flatMap.2 ⟨m, by simp [Op.operands], refs_refsT hc⟩
    ·exact List.mem_flatMap.2 ⟨k, by simp [Op.operands], refs_refsT hc⟩
   ·exact List.mem_append_right _ (by simpa [slotIds] using hc)
  ·simpa [footOp, hands, writesOp] using hc
 case mapUpdate t m k y =>
  have hs : slotAt ⟨dst, .mapUpdate t m k y, type, pos, after, guard⟩ s = none := slotAt_none (by simp [slotsOf])
  rw [hs] at hA ⊢
  refine loc_lcl (mapUpdateOp_lcl P t (ev ts m) (ev ts k) (ev ts y)) (hA.mono fun c hc => ?_) (fun c hc => ?_) (fun c hc => hA.2 c ?_) hk
  ·refine List.mem_append_left _ ?_
   simp only [hands, Bool.false_eq_true, if_false]
   rcases List.mem_append.1 hc with hc | hc
   ·rcases List.mem_append.1 hc with hc | hc
    ·exact List.mem_flatMap.2 ⟨m, by simp [Op.operands], refs_refsT hc⟩
    ·exact List.mem_flatMap.2 ⟨k, by simp [Op.operands], refs_refsT hc⟩
   ·exact List.mem_flatMap.2 ⟨y, by simp [Op.operands], refs_refsT hc⟩
  ·refine List.mem_append_left _ ?_
   simp only [hands, writesOp, if_true, Bool.false_eq_true, if_false]
   rcases List.mem_append.1 hc with hc | hc
   ·rcases List.mem_append.1 hc with hc | hc
    ·exact List.mem_flatMap.2 ⟨m, by simp [Op.operands], refs_refsT hc⟩
    ·exact List.mem_flatMap.2 ⟨k, by simp [Op.operands], refs_refsT hc⟩
   ·exact List.mem_flatMap.2 ⟨y, by simp [Op.operands], refs_refsT hc⟩
  ·simpa [footOp, hands, writesOp] using hc
 case slice t y lo hi mx => exact loc_keep (g := fun h => sliceOp P t h (ev ts y) (evo ts lo) (evo ts hi) (evo ts mx)) (sliceOp_agree (hr1 rfl y (by simp))) (W0 rfl rfl) hk
 case fieldAddr t y f => exact loc_keep (g := fun h => fieldAddrOp P t h (ev ts y) f) (fieldAddrOp_agree (hr1 rfl y (by simp))) (W0 rfl rfl) hk
 case field t y f => exact loc_keep (g := fun h => fieldOp P t (ev ts y) f) rfl (W0 rfl rfl) hk
 case indexAddr t y i => exact loc_keep (g := fun h => indexAddrOp P t h (ev ts y) (ev ts i)) (indexAddrOp_agree (hr1 rfl y (by simp))) (W0 rfl rfl) hk
 case index t y i => exact loc_keep (g := fun h => indexOp P t (ev ts y) (ev ts i)) rfl (W0 rfl rfl) hk
 case extract y j =>
  split at hk
  ·rename_i vs he
   exact loc_keep (g := fun h => vs[j]?) rfl (W0 rfl rfl) hk
  ·cases hk
 case call c =>
  split at hk
  ·rename_i b hc
   have hS : ((Op.call c).operands.toList.flatMap fun x => refsT (ev ts x)) = (evs ts c.args).flatMap refsT := by
    simp [Op.operands, Call.operands, hc, evs, List.flatMap_map]
   by_cases hb : b = .append
   ·subst hb
    have hs : slotAt ⟨dst, .call c, type, pos, after, guard⟩ s = some s := slotAt_some (by simp [slotsOf, hc])
    rw [hs] at hk hA ⊢
    obtain ⟨k, e1, e2⟩ := builtinOp_loc (fun _ => ⟨s, rfl⟩) hk (h2 := h2) (by simpa only [footOp, hands, Bool.false_eq_true, if_false, hS] using hA)
    refine ⟨k, e1, ?_⟩
    simpa [footOp, hands, hS, writesOp, hc] using e2
   ·have hw : writesOp (.call c) = false := by simp [writesOp, hc]; cases b <;> simp_all
    have hsl : slotsOf (.call c) = 0 := by simp [slotsOf, hc]; cases b <;> simp_all
    have hs : slotAt ⟨dst, .call c, type, pos, after, guard⟩ s = none := slotAt_none hsl
    rw [hs] at hk hA ⊢
    obtain ⟨k, e1, e2⟩ := builtinOp_loc (fun h => absurd h hb) hk (h2 := h2) (by simpa only [footOp, hands, Bool.false_eq_true, if_false, hS] using hA)
    refine ⟨k, e1, ?_⟩
    have hF : (footOp none ts (.call c)).2 = [] := by simp [footOp, hands, hw, slotIds]
    rw [hF]
    simpa [hb] using e2
  ·rename_i f hc
   obtain ⟨b, hb⟩ := hnc c rfl
   rw [hc] at hb
   cases hb
  ·rename_i y name hc
   obtain ⟨b, hb⟩ := hnc c rfl
   rw [hc] at hb
   cases hb
 case makeInterface t y => exact loc_keep (g := fun h => ifaceOp P t (ev ts y)) rfl (W0 rfl rfl) hk

theorem callCore_foot {al : Option Nat} {h : Heap} {f : FuncId} {xs : List PV} {z : (PV × Heap) × Foot} (hc : callCore P C M al h f xs = some z) : ∀ b ∈ xs.flatMap refs, b ∈ z.2.1 := by
 unfold callCore at hc
 obtain ⟨ys, _, hc⟩ := Option.bind_eq_some_iff.1 hc
 obtain ⟨ids, _, hc⟩ := Option.bind_eq_some_iff.1 hc
 split at hc
 ·obtain ⟨y, _, hc⟩ := Option.bind_eq_some_iff.1 hc
  dsimp only at hc
  split at hc
  ·cases hc
   intro b hb
   exact List.mem_append_left _ (List.mem_append_left _ hb)
  ·cases hc
 ·cases hc

theorem invokeOf_agree {h h2 : Heap} {x r : PV} {name : String} {g : FuncId} (hk : invokeOf P h x name = some (g, r)) (hA : ∀ b ∈ refs1 r, h2[b]? = h[b]?) : invokeOf P h2 x name = some (g, r) := by
 unfold invokeOf at hk ⊢
 split at hk
 ·rename_i t y
  split at hk
  ·rename_i e hu
   obtain ⟨i, hi, hk⟩ := Option.bind_eq_some_iff.1 hk
   obtain ⟨m, hm, hk⟩ := Option.bind_eq_some_iff.1 hk
   simp only [hi, hm, Option.bind_some]
   split at hk
   ·rename_i f hf
    split at hk
    ·rename_i hp; exact hk
    ·rename_i s hp
     split at hk
     ·rename_i fs hd hs
      obtain ⟨fd, hfd, hk⟩ := Option.bind_eq_some_iff.1 hk
      obtain ⟨j, hj, hk⟩ := Option.bind_eq_some_iff.1 hk
      simp only [hfd, hj, Option.bind_some]
      split at hk
      ·rename_i fs2 hu2
       split at hk
       ·cases hk
       ·rename_i hc
        have hc2 := hc
        simp only [not_or, Bool.not_eq_false] at hc2
        cases hk
        have : aliveP h2 y = aliveP h y := by
         cases y <;> first | rfl | (have := hA _ (List.mem_singleton_self _); simp only [aliveP, this])
        rw [this, if_neg hc]
      ·cases hk
     ·cases hk
    ·cases hk
   ·cases hk
  ·cases hk
 ·cases hk

theorem doOpF_loc {o : Oper} {s : Nat} {h : Heap} {x : PV} {h' : Heap} {F : Foot} (hk : doOpF P C M (slotAt o s) ts h o.op = some ((x, h'), F)) :
  (∀ b ∈ F.2, b ∈ F.1) ∧ ∀ h2, Agree F.1 h h2 → ∃ h2', doOpF P C M (slotAt o s) ts h2 o.op = some ((x, h2'), F) ∧ LocOut F.2 h h' h2 h2' := by
 have base : (∀ c, o.op = .call c → ∃ b, c.callee = .builtin b) → (doOp P C M (slotAt o s) ts h o.op).map (fun r => (r, footOp (slotAt o s) ts o.op)) = some ((x, h'), F) →
   (∀ b ∈ F.2, b ∈ F.1) ∧ ∀ h2, Agree F.1 h h2 → ∃ h2', (doOp P C M (slotAt o s) ts h2 o.op).map (fun r => (r, footOp (slotAt o s) ts o.op)) = some ((x, h2'), F) ∧ LocOut F.2 h h' h2 h2' := by
  intro hnc hk
  cases hr : doOp P C M (slotAt o s) ts h o.op with
  | none => rw [hr] at hk; cases hk
  | some r =>
   obtain ⟨r1, r2⟩ := r
   rw [hr] at hk
   simp only [Option.map_some, Option.some.injEq, Prod.mk.injEq] at hk
   obtain ⟨⟨rfl, rfl⟩, rfl⟩ := hk
   refine ⟨fun b hb => ?_, fun h2 hA => ?_⟩
   ·simp only [footOp, List.mem_append] at hb ⊢
    rcases hb with hb | hb
    ·split at hb
     ·exact .inl hb
     ·simp at hb
    ·exact .inr hb
   ·obtain ⟨k, e1, e2⟩ := doOp_loc hnc hr hA
    exact ⟨k, by rw [e1]; rfl, e2⟩
 obtain ⟨dst, op, type, pos, after, guard⟩ := o
 dsimp only at hk base ⊢
 unfold doOpF at hk ⊢
 split at hk
 ·rename_i c
  split at hk
  ·rename_i f hc
   have hs : slotAt ⟨dst, .call c, type, pos, after, guard⟩ s = some s := slotAt_some (by simp [slotsOf, hc])
   rw [hs] at hk ⊢
   split at hk
   ·rename_i g caps hg
    split at hk
    ·rename_i e he
     cases hr : externOp e (evs ts c.args ++ caps) with
     | none => rw [hr] at hk; cases hk
     | some v =>
      rw [hr] at hk
      simp only [keep, Option.map_some, Option.some.injEq, Prod.mk.injEq] at hk
      obtain ⟨⟨rfl, rfl⟩, rfl⟩ := hk
      refine ⟨fun b hb => hb, fun h2 hA => ?_⟩
      obtain ⟨k, e1, e2⟩ := loc_keep (g := fun _ => some v) (h := h) (h2 := h2) (W := []) (x := v) (h' := h) rfl rfl rfl
      simp only [keep, Option.map_some, Option.some.injEq, Prod.mk.injEq, true_and] at e1
      exact ⟨k, by simp [keep, e1], e2⟩
    ·exact callCore_loc hk
   ·cases hk
  ·rename_i y name hc
   have hs : slotAt ⟨dst, .call c, type, pos, after, guard⟩ s = some s := slotAt_some (by simp [slotsOf, hc])
   rw [hs] at hk ⊢
   split at hk
   ·rename_i g r hg
    obtain ⟨k1, k2⟩ := callCore_loc hk
    refine ⟨k1, fun h2 hA => ?_⟩
    obtain ⟨h2', e1, e2⟩ := k2 h2 hA
    refine ⟨h2', ?_, e2⟩
    have hF : ∀ b ∈ refs1 r, b ∈ F.1 := fun b hb => by
     exact callCore_foot hk b (List.mem_flatMap.2 ⟨r, List.mem_cons_self .., refs1_refs hb⟩)
    rw [invokeOf_agree hg fun b hb => hA.2 b (hF b hb)]
    exact e1
   ·cases hk
  ·rename_i hne hni
   refine base (fun c' e => ?_) hk
   cases e
   cases hcc : c.callee with
   | builtin b => exact ⟨b, rfl⟩
   | value f => exact absurd hcc (hne f)
   | invoke y name => exact absurd hcc (hni y name)
 ·rename_i hne
  exact base (fun c e => absurd e (hne c)) hk

end
end Go.Pu
