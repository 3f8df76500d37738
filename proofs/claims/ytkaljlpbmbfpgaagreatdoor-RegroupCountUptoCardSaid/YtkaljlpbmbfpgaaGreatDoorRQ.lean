/- The pure machine, seventeenth part: a call. -/
import Derived.Test.YtkaljlpbmbfpgaaGreatDoorRP
set_option linter.unusedSimpArgs false
namespace Go.Pu

theorem setMany_spec : ∀ (is : List Nat) (bs : List Blk) (h : Heap), is.Nodup → is.length = bs.length → (∀ i ∈ is, i < h.length) →
  (setMany h is bs).length = h.length ∧ (∀ j i : Nat, is[j]? = some i → (setMany h is bs)[i]? = bs[j]?) ∧ (∀ i : Nat, i ∉ is → (setMany h is bs)[i]? = h[i]?)
 | [], [], h, _, _, _ => ⟨rfl, fun j i hj => by simp at hj, fun i _ => rfl⟩
 | [], _ :: _, _, _, hl, _ => by simp at hl
 | _ :: _, [], _, _, hl, _ => by simp at hl
 | i :: is, b :: bs, h, hn, hl, hlt => by
  have hnd := List.nodup_cons.1 hn
  obtain ⟨s1, s2, s3⟩ := setMany_spec is bs (h.set i b) hnd.2 (by simpa using hl) (fun k hk => by simpa using hlt k (by simp [hk]))
  have hi : i < h.length := hlt i (by simp)
  refine ⟨by simp only [setMany, s1, List.length_set], fun j k hj => ?_, fun k hk => ?_⟩
  ·cases j with
   | zero =>
    simp at hj
    subst hj
    simp only [setMany]
    rw [s3 i hnd.1]
    simp [hi]
   | succ j =>
    simp at hj
    simp only [setMany]
    rw [s2 j k hj]
    simp
  ·simp only [setMany]
   have h1 : k ≠ i := fun e => hk (by simp [e])
   have h2 : k ∉ is := fun e => hk (by simp [e])
   rw [s3 k h2, List.getElem?_set, if_neg (Ne.symm h1)]

section
variable {P : Program} {E : Env}

/-- a list of values, one by one -/
def RepL (P : Program) (E : Env) (xs : List PV) (vs : List Value) : Prop := xs.length = vs.length ∧ ∀ i, i < xs.length → Rep P E (xs.getD i .top) (vs.getD i undef)

theorem RepL.mono {E' : Env} (hI : Inv P E) (hT : Trans E E') {xs : List PV} {vs : List Value} (h : RepL P E xs vs) : RepL P E' xs vs := ⟨h.1, fun i hi => (h.2 i hi).mono hI hT⟩

def CallsOK (P : Program) (C : CallF) : Prop :=
 ∀ f xs hc r hc', C f xs hc = some (r, hc') → (∃ fn, P.funcs[f]? = some fn ∧ fn.body.isSome = true) ∧
  ∀ (E : Env) (vs : List Value), E.h = hc → (∀ b : Nat, b < hc.length → okBlk (hc.getD b .res) = true) → Inv P E → RepL P E xs vs →
   Calls P f vs.toArray E.w fun e w' => ∃ v E', e = .returned v ∧ E'.w = w' ∧ E'.h = hc' ∧ TransK hc.length E E' ∧ Inv P E' ∧ Rep P E' r v

theorem freezes_env : ∀ (bs : List Nat) {E : Env}, Inv P E → ∃ E', E'.w = E.w ∧ E'.h = bs.foldl freeze E.h ∧ E'.ρ = E.ρ ∧ Trans E E' ∧ Inv P E' ∧ (∀ i : Nat, i ∉ bs → E'.h[i]? = E.h[i]?) ∧
  ∀ b ∈ bs, ∀ t es l, E.h[b]? = some (.arr t es l) → E'.h[b]? = some (.arr t es false) ∧ ∀ blk o, E.ρ b = some (blk, o) → E'.im blk
 | [], E, hI => ⟨E, rfl, rfl, rfl, Trans.refl E, hI, fun _ _ => rfl, fun b hb => by simp at hb⟩
 | b :: bs, E, hI => by
  obtain ⟨E1, e1, e2, e3, e4, e5, e6⟩ := freeze_env hI b
  obtain ⟨E2, f1, f2, f3, f4, f5, f6, f7⟩ := freezes_env bs e5
  have hfz : ∀ i : Nat, i ≠ b → (freeze E.h b)[i]? = E.h[i]? := by
   intro i hi
   unfold freeze
   split
   ·rw [List.getElem?_set, if_neg (Ne.symm hi)]
   ·rfl
  refine ⟨E2, f1.trans e1, by rw [f2, e2]; rfl, f3.trans e3, e4.trans f4, f5, fun i hi => ?_, fun c hc t es l hl => ?_⟩
  ·rw [f6 i (fun h => hi (by simp [h])), e2, hfz i (fun h => hi (by simp [h]))]
  ·by_cases hcb : c = b
   ·subst hcb
    obtain ⟨g1, g2⟩ := e6 t es l hl
    by_cases hcs : c ∈ bs
    ·obtain ⟨k1, k2⟩ := f7 c hcs t es false g1
     exact ⟨k1, fun blk o hρ => k2 blk o (by rw [e3]; exact hρ)⟩
    ·exact ⟨by rw [f6 c hcs]; exact g1, fun blk o hρ => f4.im _ (g2 blk o hρ)⟩
   ·have hcs : c ∈ bs := by simpa [hcb] using hc
    obtain ⟨k1, k2⟩ := f7 c hcs t es l (by rw [e2, hfz c hcb]; exact hl)
    exact ⟨k1, fun blk o hρ => k2 blk o (by rw [e3]; exact hρ)⟩

theorem mapO_spec {α β : Type} {g : α → Option β} : ∀ {xs : List α} {ys : List β}, mapO g xs = some ys → ys.length = xs.length ∧ ∀ (i : Nat) (x : α), xs[i]? = some x → ∃ y, ys[i]? = some y ∧ g x = some y
 | [], ys, h => by simp [mapO] at h; subst h; exact ⟨rfl, fun i x hx => by simp at hx⟩
 | x :: xs, ys, h => by
  simp only [mapO] at h
  cases hx : g x with
  | none => simp [hx] at h
  | some y =>
   cases hs : mapO g xs with
   | none => simp [hx, hs] at h
   | some zs =>
    simp [hx, hs] at h
    subst h
    obtain ⟨h1, h2⟩ := mapO_spec hs
    refine ⟨by simp [h1], fun i z hz => ?_⟩
    cases i with
    | zero => simp at hz; subst hz; exact ⟨y, rfl, hx⟩
    | succ i => simpa using h2 i z (by simpa using hz)

/-- as it is handed over to be read: in the world where its row is written no more -/
theorem view1_rep {E' : Env} (hI : Inv P E) (hI' : Inv P E') (hT : Trans E E') {x y : PV} (h : view1 E.h x = some y) {v : Value} (hx : Rep P E x v) (hf : ∀ b ∈ refs1 x, ∀ t es l, E.h[b]? = some (.arr t es l) → E'.h[b]? = some (.arr t es false) ∧ ∀ blk o, E.ρ b = some (blk, o) → E'.im blk) :
  Rep P E' y v := by
 have key : ∀ (b off n : Nat) (t : TypeId) (es : List (List PV)) (l : Bool), E.h[b]? = some (.arr t es l) → off + n ≤ es.length → SlcAt P E b off n v → b ∈ refs1 x → Rep P E' (.lst t ((es.drop off).take n)) v := by
  intro b off n t es l hb hle hS hm
  obtain ⟨f1, f2⟩ := hf b hm t es l hb
  refine (own_is hI' f1 (hS.mono hT) hle).lst fun blk o c T fz A m cap hv hA hne hc => ?_
  unfold SlcAt at hS
  rw [hb] at hS
  obtain ⟨_, sz, A', cap', _, hv', hn, hh⟩ := hS
  rw [hv] at hv'
  cases hv'
  rcases hh with hh | ⟨blk', o', c', T', h1, h2, _⟩
  ·exfalso
   apply hne
   apply List.eq_nil_of_length_eq_zero
   simp
   omega
  ·cases h2
   cases hA
   exact f2 _ _ h1
 unfold view1 at h
 split at h
 ·rename_i b
  cases hb : E.h[b]? with
  | none => simp [content, hb] at h
  | some z =>
   cases z <;> simp [content, hb] at h
   rename_i t es l
   subst h
   cases hx with
   | all _ n _ hn hh =>
    obtain rfl := hn _ _ _ hb
    simpa using key b 0 es.length t es l hb (by omega) hh (by simp [refs1])
 ·rename_i b off n
  cases hb : E.h[b]? with
  | none => simp [content, hb] at h
  | some z =>
   cases z with
   | arr t es l =>
    by_cases hle : off + n ≤ es.length
    ·simp only [content, hb, hle, if_true, Option.bind_some, Option.map_some, Option.some.injEq] at h
     subst h
     cases hx with
     | own _ _ _ _ hh => exact key b off n t es l hb hle hh (by simp [refs1])
    ·simp only [content, hb, hle, if_false, Option.bind_none, reduceCtorEq] at h
   | _ => simp [content, hb] at h
 ·cases h
  exact hx.mono hI hT

theorem view_rep {E' : Env} (hI : Inv P E) (hI' : Inv P E') (hT : Trans E E') {x y : PV} (h : view E.h x = some y) {v : Value} (hx : Rep P E x v) (hf : ∀ b ∈ refs x, ∀ t es l, E.h[b]? = some (.arr t es l) → E'.h[b]? = some (.arr t es false) ∧ ∀ blk o, E.ρ b = some (blk, o) → E'.im blk) :
  Rep P E' y v := by
 unfold view at h
 split at h
 ·rename_i cs
  cases hm : mapO (view1 E.h) cs with
  | none => simp [hm] at h
  | some ds =>
   simp [hm] at h
   subst h
   obtain ⟨l1, l2⟩ := mapO_spec hm
   cases hx with
   | agg _ vs hl hr =>
    refine .agg ds vs (by omega) fun i hi => ?_
    have hi' : i < cs.length := by omega
    obtain ⟨y, hy, hv⟩ := l2 i cs[i] (by simp [hi'])
    have h1 := hr i hi'
    rw [List.getD, List.getElem?_eq_getElem hi'] at h1
    have h2 : ds.getD i .top = y := by rw [List.getD, hy]; rfl
    rw [h2]
    exact view1_rep hI hI' hT hv h1 fun b hb => hf b (List.mem_flatMap.2 ⟨_, List.getElem_mem hi', hb⟩)
 ·rename_i hna
  refine view1_rep hI hI' hT h hx fun b hb => hf b ?_
  cases x <;> first | exact hb | simp [refs1] at hb | exact absurd rfl (hna _)

theorem heapOf_ok {roots ids : List Nat} (hr : Reach E.h roots ids) : ∀ b : Nat, b < (heapOf E.h ids).length → okBlk ((heapOf E.h ids).getD b .res) = true := by
 intro b hb
 have hx : ∃ x, (E.sub ids).h[b]? = some x := ⟨_, List.getElem?_eq_getElem hb⟩
 obtain ⟨x, hx⟩ := hx
 obtain ⟨c, h1, h2, h3, h4⟩ := sub_at hr hx
 obtain ⟨y, g1, g2, g3⟩ := hr.some h2
 have hok := hr.ok c h2
 rw [hx, g1] at h4
 have hy : E.h.getD c .res = y := by simp [List.getD, g1]
 rw [hy] at hok
 have e : (heapOf E.h ids).getD b .res = x := by
  have : (heapOf E.h ids)[b]? = some x := hx
  simp [List.getD, this]
 rw [e]
 cases h4
 cases y with
 | box t cs =>
  simp only [renBlk, okBlk, List.all_map]
  refine List.all_eq_true.2 fun z hz => ?_
  have := List.all_eq_true.1 hok z hz
  cases z <;> simp only [Function.comp, ren, ren1, sh, sh1] at this ⊢ <;> (try exact this)
  case agg ds =>
   rw [List.all_map]
   refine List.all_eq_true.2 fun q hq => ?_
   have := List.all_eq_true.1 this q hq
   cases q <;> simp [ren1, sh1] at this ⊢
  case fn g ds =>
   rw [List.all_map]
   refine List.all_eq_true.2 fun q hq => ?_
   have := List.all_eq_true.1 this q hq
   cases q <;> simp [ren1, sh1] at this ⊢
  case iface t q => cases q <;> simp [ren1, sh1] at this ⊢
 | dead => rfl
 | arr => rfl
 | map => exact hok
 | res => exact absurd rfl g2

theorem nils_of_zero {l : List Nat} (h : l.isEmpty = true) : l = [] := by cases l <;> simp at h ⊢

theorem scalar_rep {E' : Env} {x : PV} {v : Value} (h : Rep P E x v) {k : Kd} (hk : cellOK k x = true) (hs : scalarKd k = true) : Rep P E' x v := by
 cases k <;> simp [scalarKd] at hs <;> cases h <;> simp [cellOK] at hk <;> constructor

structure Fin (h1 hfin : Heap) (ids : List Nat) (bs : List Blk) (g : Nat → Nat) (h : Heap) : Prop where
 f1 : ∀ j : Nat, j < bs.length → hfin[g j]? = bs[j]?
 f2 : ∀ b : Nat, (∀ j, j < bs.length → g j ≠ b) → hfin[b]? = h1[b]?
 gi : ∀ i j, i < bs.length → j < bs.length → g i = g j → i = j
 gk : ∀ j : Nat, j < ids.length → ids[j]? = some (g j)
 gf : ∀ j : Nat, ids.length ≤ j → j < bs.length → h[g j]? = none ∨ h[g j]? = some .res

theorem fin_spec {h h1 : Heap} {roots ids : List Nat} (hr : Reach h roots ids) (hlen : h1.length = h.length) {al : Option Nat} {bs : List Blk} (hk : ids.length ≤ bs.length)
  (hf : resFree h al (bs.drop ids.length).length = true) :
  Fin h1 (addMany al (setMany h1 ids (bs.take ids.length)) (bs.drop ids.length)) ids bs (fwd ids (baseOf al h)) h := by
 have hlt : ∀ i ∈ ids, i < h1.length := by
  intro i hi
  obtain ⟨x, hx, _⟩ := hr.some hi
  rw [hlen]
  exact lt_of_some hx
 have htl : (bs.take ids.length).length = ids.length := by simp; omega
 obtain ⟨s1, s2, s3⟩ := setMany_spec ids (bs.take ids.length) h1 hr.nd htl.symm hlt
 have gk : ∀ (base j : Nat), j < ids.length → ids[j]? = some (fwd ids base j) := by
  intro base j hj
  simp [fwd, hj, List.getD]
 have gge : ∀ (base j : Nat), ids.length ≤ j → fwd ids base j = base + (j - ids.length) := by
  intro base j hj
  simp [fwd, Nat.not_lt.2 hj]
 have gmem : ∀ (base j : Nat), j < ids.length → fwd ids base j ∈ ids := fun base j hj => List.mem_of_getElem? (gk base j hj)
 have ginj : ∀ (base i j : Nat), i < ids.length → j < ids.length → fwd ids base i = fwd ids base j → i = j := by
  intro base i j hi hj he
  have h1 := gk base i hi
  have h2 := gk base j hj
  rw [List.getElem?_eq_getElem hi] at h1
  rw [List.getElem?_eq_getElem hj] at h2
  have e1 := idxOf_get hi hr.nd
  have e2 := idxOf_get hj hr.nd
  rw [Option.some.inj h1] at e1
  rw [Option.some.inj h2, ← he] at e2
  omega
 have hmid : ∀ i ∈ ids, i < h.length ∧ h[i]? ≠ some .res := by
  intro i hi
  obtain ⟨x, hx, hxr, _⟩ := hr.some hi
  exact ⟨lt_of_some hx, fun e => hxr (by rw [hx] at e; exact Option.some.inj e)⟩
 have notmem : ∀ (base b : Nat), (∀ j, j < bs.length → fwd ids base j ≠ b) → b ∉ ids := by
  intro base b hb hm
  obtain ⟨j, hj, e⟩ := List.getElem_of_mem hm
  have := gk base j hj
  rw [List.getElem?_eq_getElem hj, e] at this
  exact hb j (by omega) (Option.some.inj this).symm
 cases al with
 | none =>
  simp only [addMany, baseOf]
  refine ⟨fun j hj => ?_, fun b hb => ?_, fun i j hi hj he => ?_, gk _, fun j hj hjb => ?_⟩
  ·by_cases hjk : j < ids.length
   ·have hm := (hmid _ (gmem h.length j hjk)).1
    rw [List.getElem?_append_left (by rw [s1, hlen]; exact hm), s2 j _ (gk _ j hjk), List.getElem?_take, if_pos hjk]
   ·rw [gge _ j (by omega), List.getElem?_append_right (by rw [s1, hlen]; omega), s1, hlen, List.getElem?_drop]
    congr 1
    omega
  ·have hni := notmem _ b hb
   by_cases hbl : b < h.length
   ·rw [List.getElem?_append_left (by rw [s1, hlen]; exact hbl), s3 b hni]
   ·have : (bs.drop ids.length).length ≤ b - h.length := by
     rcases Nat.lt_or_ge (b - h.length) (bs.drop ids.length).length with hh | hh
     ·exfalso
      simp at hh
      refine hb (ids.length + (b - h.length)) (by omega) ?_
      rw [gge _ _ (by omega)]
      omega
     ·exact hh
    rw [List.getElem?_append_right (by rw [s1, hlen]; omega), s1, hlen, List.getElem?_eq_none this, List.getElem?_eq_none (by omega)]
  ·by_cases hik : i < ids.length <;> by_cases hjk : j < ids.length
   ·exact ginj _ i j hik hjk he
   ·have := (hmid _ (gmem h.length i hik)).1
    rw [he, gge _ j (by omega)] at this
    omega
   ·have := (hmid _ (gmem h.length j hjk)).1
    rw [← he, gge _ i (by omega)] at this
    omega
   ·rw [gge _ i (by omega), gge _ j (by omega)] at he
    omega
  ·rw [gge _ j hj]
   exact .inl (List.getElem?_eq_none (by omega))
 | some s =>
  simp only [addMany, baseOf]
  simp only [resFree] at hf
  have hres : ∀ m, m < (bs.drop ids.length).length → h[s + m]? = some .res := by
   intro m hm
   have := List.all_eq_true.1 hf (s + m) (by simp [List.mem_range']; simpa using hm)
   split at this
   ·assumption
   ·cases this
  have hrl : (List.range' s (bs.drop ids.length).length).length = (bs.drop ids.length).length := by simp
  obtain ⟨r1, r2, r3⟩ := setMany_spec (List.range' s (bs.drop ids.length).length) (bs.drop ids.length) (setMany h1 ids (bs.take ids.length)) List.nodup_range' hrl (fun i hi => by
   rw [s1, hlen]
   simp only [List.mem_range'_1] at hi
   have := hres (i - s) (by omega)
   rw [show s + (i - s) = i by omega] at this
   exact lt_of_some this)
  have hdl : (bs.drop ids.length).length = bs.length - ids.length := by simp
  have hnr : ∀ i ∈ ids, i ∉ List.range' s (bs.drop ids.length).length := by
   intro i hi hm
   simp only [List.mem_range'_1] at hm
   have := hres (i - s) (by omega)
   rw [show s + (i - s) = i by omega] at this
   exact (hmid i hi).2 this
  refine ⟨fun j hj => ?_, fun b hb => ?_, fun i j hi hj he => ?_, gk _, fun j hj hjb => ?_⟩
  ·by_cases hjk : j < ids.length
   ·rw [r3 _ (hnr _ (gmem s j hjk)), s2 j _ (gk _ j hjk), List.getElem?_take, if_pos hjk]
   ·rw [gge _ j (by omega)]
    have := r2 (j - ids.length) (s + (j - ids.length)) (by rw [List.getElem?_range' (by omega)]; simp)
    rw [this, List.getElem?_drop]
    congr 1
    omega
  ·have hni := notmem _ b hb
   have hnr' : b ∉ List.range' s (bs.drop ids.length).length := by
    intro hm
    simp only [List.mem_range'_1] at hm
    refine hb (ids.length + (b - s)) (by omega) ?_
    rw [gge _ _ (by omega)]
    omega
   rw [r3 b hnr', s3 b hni]
  ·by_cases hik : i < ids.length <;> by_cases hjk : j < ids.length
   ·exact ginj _ i j hik hjk he
   ·have h1 := (hmid _ (gmem s i hik)).2
    rw [he, gge _ j (by omega)] at h1
    exact absurd (hres (j - ids.length) (by omega)) h1
   ·have h1 := (hmid _ (gmem s j hjk)).2
    rw [← he, gge _ i (by omega)] at h1
    exact absurd (hres (i - ids.length) (by omega)) h1
   ·rw [gge _ i (by omega), gge _ j (by omega)] at he
    omega
  ·rw [gge _ j hj]
   exact .inr (hres _ (by omega))

end
end Go.Pu
