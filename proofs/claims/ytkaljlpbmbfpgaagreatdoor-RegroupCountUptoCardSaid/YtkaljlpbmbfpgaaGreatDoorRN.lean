/- The pure machine, fourteenth part: blocks under other numbers. -/
import Derived.Test.YtkaljlpbmbfpgaaGreatDoorRM
set_option linter.unusedSimpArgs false
namespace Go.Pu

def plain : PV → Bool
 | .agg _ | .tuple _ | .all _ | .own _ _ _ | .ptr _ _ | .aptr _ _ _ | .fn _ _ | .iface _ _ | .new _ _ | .newb _ _ | .mp _ => false
 | _ => true

theorem plain_of_cellOK {k : Kd} {x : PV} (h : cellOK k x = true) : plain x = true := by
 cases k <;> cases x <;> first | rfl | simp [cellOK] at h

section
variable {P : Program} {E E' : Env}

theorem rep_plain (hw : E'.w = E.w) (him : ∀ blk, E.im blk → E'.im blk) {x : PV} {v : Value} (h : Rep P E x v) : plain x = true → Rep P E' x v := by
 induction h with
 | top v => exact fun _ => .top v
 | bool b => exact fun _ => .bool b
 | int k n => exact fun _ => .int k n
 | str s => exact fun _ => .str s
 | nils => exact fun _ => .nils
 | lst0 t A cap hA => exact fun _ => .lst0 t A cap hA
 | lst t es blk o cap sz c T fz hs hb hm hcap hlen hk hr ih =>
  intro _
  refine .lst t es blk o cap sz c T fz hs (by rw [hw]; exact hb) (him blk hm) hcap hlen hk fun i j hi hj => ih i j hi hj ?_
  obtain ⟨l1, l2⟩ := cellsOK_getD (hk i hi)
  obtain ⟨_, _, _, hkl, _⟩ := elSize_spec hs
  exact plain_of_cellOK (l2 j ((kds P t)[j]'(by omega)) (by simp))
 | eptr t cs off blk o c T fz hb hm hlen hk hr ih =>
  intro _
  refine .eptr t cs off blk o c T fz (by rw [hw]; exact hb) (him blk hm) hlen hk fun j hj => ih j hj ?_
  obtain ⟨l1, l2⟩ := cellsOK_getD hk
  exact plain_of_cellOK (l2 j ((kds P t)[j]'(by omega)) (by simp))
 | nilp => exact fun _ => .nilp
 | nilfn => exact fun _ => .nilfn
 | nili => exact fun _ => .nili
 | _ => intro h; simp [plain] at h

/-- the blocks of D bear other numbers -/
structure Rn (E E' : Env) (f : Nat → Nat) (D : Nat → Prop) : Prop where
 w : E'.w = E.w
 im : ∀ blk, E.im blk → E'.im blk
 h : ∀ b : Nat, D b → E'.h[f b]? = (E.h[b]?).map (renBlk f)
 ρ : ∀ b : Nat, D b → E'.ρ (f b) = E.ρ b

variable {f : Nat → Nat} {D : Nat → Prop}

theorem SlcAt.ren (hR : Rn E E' f D) {b off n : Nat} {v : Value} (hb : D b) (h : SlcAt P E b off n v) : SlcAt P E' (f b) off n v := by
 unfold SlcAt at h ⊢
 rw [hR.h b hb]
 cases hx : E.h[b]? with
 | none => rw [hx] at h; exact h.elim
 | some x =>
  rw [hx] at h
  cases x with
  | dead => trivial
  | res => exact h.elim
  | box => trivial
  | map => trivial
  | arr t es l => simpa only [Option.map_some, renBlk, hR.ρ b hb, hR.w] using h

theorem PtrAt.ren (hR : Rn E E' f D) {b off : Nat} {v : Value} (hb : D b) (h : PtrAt E b off v) : PtrAt E' (f b) off v := by
 unfold PtrAt at h ⊢
 rw [hR.h b hb]
 cases hx : E.h[b]? with
 | none => rw [hx] at h; exact h.elim
 | some x =>
  rw [hx] at h
  cases x with
  | dead => trivial
  | res => exact h.elim
  | arr => trivial
  | map => trivial
  | box t cs => simpa only [Option.map_some, renBlk, hR.ρ b hb] using h

theorem AptrAt.ren (hR : Rn E E' f D) {b i off : Nat} {v : Value} (hb : D b) (h : AptrAt P E b i off v) : AptrAt P E' (f b) i off v := by
 unfold AptrAt at h ⊢
 rw [hR.h b hb]
 cases hx : E.h[b]? with
 | none => rw [hx] at h; exact h.elim
 | some x =>
  rw [hx] at h
  cases x with
  | dead => trivial
  | res => exact h.elim
  | box => trivial
  | map => trivial
  | arr t es l => simpa only [Option.map_some, renBlk, hR.ρ b hb] using h

theorem MapPtr.ren (hR : Rn E E' f D) {b : Nat} {v : Value} (hb : D b) (h : MapPtr E b v) : MapPtr E' (f b) v := by
 unfold MapPtr at h ⊢
 rw [hR.h b hb]
 cases hx : E.h[b]? with
 | none => rw [hx] at h; exact h.elim
 | some x =>
  rw [hx] at h
  cases x with
  | dead => trivial
  | res => exact h.elim
  | arr => trivial
  | box => trivial
  | map t es st => simpa only [Option.map_some, renBlk, hR.ρ b hb] using h

theorem Rep.ren1 (hR : Rn E E' f D) {x : PV} {v : Value} (h : Rep P E x v) (hs : sh1 x = true) (hd : ∀ b ∈ refs1 x, D b) : Rep P E' (ren1 f x) v := by
 have hp : plain x = true → Rep P E' x v := rep_plain hR.w hR.im h
 cases h with
 | all b n v hn hh =>
  have hb := hd b (by simp [refs1])
  refine .all (f b) n v (fun t es l he => ?_) (hh.ren hR hb)
  rw [hR.h b hb] at he
  cases hx : E.h[b]? with
  | none => simp [hx] at he
  | some y =>
   rw [hx] at he
   cases y <;> simp [renBlk] at he
   obtain ⟨rfl, rfl, rfl⟩ := he
   exact hn _ _ _ hx
 | own b off n v hh => exact .own (f b) off n v (hh.ren hR (hd b (by simp [refs1])))
 | ptr b off v hh => exact .ptr (f b) off v (hh.ren hR (hd b (by simp [refs1])))
 | aptr b i off v hh => exact .aptr (f b) i off v (hh.ren hR (hd b (by simp [refs1])))
 | mp b v hh => exact .mp (f b) v (hh.ren hR (hd b (by simp [refs1])))
 | agg => simp [sh1] at hs
 | tuple => simp [sh1] at hs
 | fn => simp [sh1] at hs
 | iface => simp [sh1] at hs
 | zcap => simp [sh1] at hs
 | zany => simp [sh1] at hs
 | _ => exact hp rfl

theorem getD_map_ren {g : PV → PV} (hg : g .top = .top) (cs : List PV) (i : Nat) : (cs.map g).getD i .top = g (cs.getD i .top) := by
 simp only [List.getD, List.getElem?_map]
 cases cs[i]? <;> simp [hg]

theorem mem_getD_list {cs : List PV} {i : Nat} (h : i < cs.length) : cs.getD i .top ∈ cs := by
 rw [List.getD, List.getElem?_eq_getElem h]
 exact List.getElem_mem h

theorem Rep.ren (hR : Rn E E' f D) {x : PV} {v : Value} (h : Rep P E x v) (hs : sh x = true) (hd : ∀ b ∈ refs x, D b) : Rep P E' (ren f x) v := by
 cases h with
 | agg cs vs hl hh =>
  refine .agg _ vs (by simpa using hl) fun i hi => ?_
  have hi' : i < cs.length := by simpa using hi
  rw [getD_map_ren rfl]
  exact (hh i hi').ren1 hR (List.all_eq_true.1 hs _ (mem_getD_list hi')) fun b hb => hd b (List.mem_flatMap.2 ⟨_, mem_getD_list hi', hb⟩)
 | fn g cs vs hl hh =>
  refine .fn g _ vs (by simpa using hl) fun i hi => ?_
  have hi' : i < cs.length := by simpa using hi
  rw [getD_map_ren rfl]
  exact (hh i hi').ren1 hR (List.all_eq_true.1 hs _ (mem_getD_list hi')) fun b hb => hd b (List.mem_flatMap.2 ⟨_, mem_getD_list hi', hb⟩)
 | iface t x v hh => exact .iface t _ v (hh.ren1 hR hs hd)
 | tuple => simp [sh, sh1] at hs
 | zcap => simp [sh, sh1] at hs
 | zany => simp [sh, sh1] at hs
 | top v => exact .top v
 | bool b => exact .bool b
 | int k n => exact .int k n
 | str s => exact .str s
 | nils => exact .nils
 | lst0 t A cap hA => exact .lst0 t A cap hA
 | lst t es blk o cap sz c T fz hz hb hm hcap hlen hk hr => exact (Rep.lst t es blk o cap sz c T fz hz hb hm hcap hlen hk hr).ren1 hR rfl (fun b hb => by simp [refs1] at hb)
 | all b n v hn hh => exact (Rep.all b n v hn hh).ren1 hR rfl hd
 | own b off n v hh => exact (Rep.own b off n v hh).ren1 hR rfl hd
 | nilp => exact .nilp
 | ptr b off v hh => exact (Rep.ptr (P := P) b off v hh).ren1 hR rfl hd
 | aptr b i off v hh => exact (Rep.aptr b i off v hh).ren1 hR rfl hd
 | mp b v hh => exact (Rep.mp (P := P) b v hh).ren1 hR rfl hd
 | eptr t cs off blk o c T fz hb hm hlen hk hr => exact (Rep.eptr t cs off blk o c T fz hb hm hlen hk hr).ren1 hR rfl (fun b hb => by simp [refs1] at hb)
 | nilfn => exact .nilfn
 | nili => exact .nili

theorem Rep.renR (hR : Rn E E' f D) {x : PV} {v : Value} (h : Rep P E x v) (hs : shR x = true) (hd : ∀ b ∈ refsR x, D b) : Rep P E' (renR f x) v := by
 cases h with
 | tuple cs vs hl hh =>
  refine .tuple _ vs (by simpa using hl) fun i hi => ?_
  have hi' : i < cs.length := by simpa using hi
  rw [getD_map_ren rfl]
  exact (hh i hi').ren hR (List.all_eq_true.1 hs _ (mem_getD_list hi')) fun b hb => hd b (List.mem_flatMap.2 ⟨_, mem_getD_list hi', hb⟩)
 | agg cs vs hl hh => exact (Rep.agg cs vs hl hh).ren hR hs hd
 | fn g cs vs hl hh => exact (Rep.fn g cs vs hl hh).ren hR hs hd
 | iface t x v hh => exact (Rep.iface t x v hh).ren hR hs hd
 | zcap => simp [shR, sh, sh1] at hs
 | zany => simp [shR, sh, sh1] at hs
 | top v => exact .top v
 | bool b => exact .bool b
 | int k n => exact .int k n
 | str s => exact .str s
 | nils => exact .nils
 | lst0 t A cap hA => exact .lst0 t A cap hA
 | lst t es blk o cap sz c T fz hz hb hm hcap hlen hk hr => exact (Rep.lst t es blk o cap sz c T fz hz hb hm hcap hlen hk hr).ren hR hs hd
 | all b n v hn hh => exact (Rep.all b n v hn hh).ren hR hs hd
 | own b off n v hh => exact (Rep.own b off n v hh).ren hR hs hd
 | nilp => exact .nilp
 | ptr b off v hh => exact (Rep.ptr (P := P) b off v hh).ren hR hs hd
 | aptr b i off v hh => exact (Rep.aptr b i off v hh).ren hR hs hd
 | mp b v hh => exact (Rep.mp (P := P) b v hh).ren hR hs hd
 | eptr t cs off blk o c T fz hb hm hlen hk hr => exact (Rep.eptr t cs off blk o c T fz hb hm hlen hk hr).ren hR hs hd
 | nilfn => exact .nilfn
 | nili => exact .nili

theorem SlcIn.ren (hR : Rn E E' f D) {st : MS} {u : TypeId} {rows : List (List PV)} {v : Value} (him : st ≠ .fz → ∀ blk, ArrOf v blk → E'.im blk → E.im blk) (h : SlcIn P E st u rows v) : SlcIn P E' st u rows v := by
 obtain ⟨sz, A, cap, h1, h2, h3, h4, h5⟩ := h
 refine ⟨sz, A, cap, h1, h2, h3, h4, ?_⟩
 rcases h5 with h5 | ⟨blk, o, c, T, q1, q2, q3, q4, q5, q6⟩
 ·exact .inl h5
 ·by_cases h0 : cap = 0
  ·exact .inl ⟨h0, fun _ => h0⟩
  ·have ha : ArrOf v blk := ⟨o, rows.length, cap, by rw [h2, q1], h0⟩
   refine .inr ⟨blk, o, c, T, q1, by rw [hR.w]; exact q2, q3, fun i j hi hj => rep_plain hR.w hR.im (q4 i j hi hj) ?_, fun hs hm => q5 hs (him hs blk ha hm), fun hs => hR.im _ (q6 hs)⟩
   obtain ⟨l1, l2⟩ := cellsOK_getD (h4 i hi)
   obtain ⟨_, _, _, hkl, _⟩ := elSize_spec h1
   exact plain_of_cellOK (l2 j ((kds P u)[j]'(by omega)) (by simp))

/-- what a block holds, under its other number -/
theorem BlkAt.ren (hR : Rn E E' f D) {b : Nat} (hb : D b) (h : BlkAt P E b) (hok : okBlk (E.h.getD b .res) = true) (hcl : ∀ c ∈ boxRefs E.h b, D c)
  (him : ∀ blk, OwnB E b blk → E'.im blk → E.im blk) : BlkAt P E' (f b) := by
 unfold BlkAt at h ⊢
 rw [hR.h b hb, hR.ρ b hb]
 cases hx : E.h[b]? with
 | none => trivial
 | some x =>
  rw [hx] at h
  cases x with
  | dead => trivial
  | res => trivial
  | arr t es l =>
   simp only [Option.map_some, renBlk]
   refine ⟨h.1, ?_⟩
   cases hρ : E.ρ b with
   | none => have := h.2; rw [hρ] at this; exact this
   | some p =>
    obtain ⟨blk, o⟩ := p
    have := h.2
    rw [hρ] at this
    obtain ⟨sz, c, T, h1, h2, h3, h4, h5, h6⟩ := this
    refine ⟨sz, c, T, h1, by rw [hR.w]; exact h2, h3, fun i j hi hj => rep_plain hR.w hR.im (h4 i j hi hj) ?_, fun hl hm => h5 hl (him _ (.inl ⟨o, hρ, .inl ⟨t, es, by rw [hx, hl]⟩⟩) hm), fun hl => hR.im _ (h6 hl)⟩
    obtain ⟨l1, l2⟩ := cellsOK_getD (h.1 i hi)
    obtain ⟨_, _, _, hkl, _⟩ := elSize_spec h1
    exact plain_of_cellOK (l2 j ((kds P t)[j]'(by omega)) (by simp))
  | box t cs =>
   simp only [Option.map_some, renBlk]
   obtain ⟨blk, o, c, T, h1, h2, h3, h4, h5⟩ := h
   have hbx : E.h.getD b .res = .box t cs := by simp [List.getD, hx]
   rw [hbx] at hok
   refine ⟨blk, o, c, T, h1, by rw [hR.w]; exact h2, by simpa using h3, fun j hj => ?_, fun hm => h5 (him _ (.inl ⟨o, h1, .inr ⟨t, cs, hx⟩⟩) hm)⟩
   have hj' : j < cs.length := by simpa using hj
   rw [getD_map_ren rfl]
   exact (h4 j hj').ren hR (List.all_eq_true.1 hok _ (mem_getD_list hj')) fun c hc => hcl c (by simp only [boxRefs, hx]; exact List.mem_flatMap.2 ⟨_, mem_getD_list hj', hc⟩)

  | map t es st =>
   simp only [Option.map_some, renBlk]
   obtain ⟨ob, eo, clock, r1, r2, r3, r4, r5, r6, r7, r8, r9⟩ := h
   refine ⟨ob, eo, clock, r1, by rw [hR.w]; exact r2, r3, r4, fun i hi => ?_, r6, r7, fun hs hm => r8 hs (him _ (.inr ⟨t, es, st, ob, eo, clock, hx, hs, r1, r2, .inl rfl⟩) hm), fun hs => hR.im _ (r9 hs)⟩
   obtain ⟨k, x, e1, e2, e3⟩ := r5 i hi
   refine ⟨k, x, e1, e2, fun hs => ?_⟩
   have h3 := e3 hs
   split
   ·rename_i u hu
    rw [hu] at h3
    obtain ⟨rows, q1, q2⟩ := h3
    refine ⟨rows, q1, q2.ren hR (fun hst blk ha hm => ?_)⟩
    rcases hs with hs | hs
    ·exact him _ (.inr ⟨t, es, st, ob, eo, clock, hx, hst, r1, r2, .inr ⟨i, hi, hs, ha⟩⟩) hm
    ·exact absurd hs hst
   ·rename_i hu
    split at h3
    ·rename_i u hu2
     exact absurd hu2 (hu u)
    ·exact h3

end
end Go.Pu
