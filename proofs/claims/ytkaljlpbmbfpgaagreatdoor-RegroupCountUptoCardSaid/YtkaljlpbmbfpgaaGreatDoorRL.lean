/- The pure machine, twelfth part: what is appended; rows that are made with a length. -/
import Derived.Test.YtkaljlpbmbfpgaaGreatDoorRK
set_option linter.unusedSimpArgs false
namespace Go.Pu

section
variable {P : Program} {E : Env}

/-- what is appended: its cells, whatever is drawn -/
structure News (P : Program) (E : Env) (e : TypeId) (sz : Nat) (ys : List (List PV)) (v : Value) (news : Array Value) : Prop where
 len : ∀ w, (Builtin.lenOf v).run P w = .ok ys.length w
 cells : ∀ w, w.heap = E.w.heap → (Builtin.firstCells sz ys.length v).run P w = .ok news w
 size : news.size = ys.length * sz
 ok : ∀ i, i < ys.length → cellsOK (kds P e) (ys.getD i []) = true
 rep : ∀ i j, i < ys.length → j < sz → Rep P E ((ys.getD i []).getD j .top) (news.getD (i * sz + j) undef)

theorem firstCells_at {blk o sz n cap : Nat} {c : Array Value} {T : TypeId} {fz : Nat × Nat} {w : World} (hb : w.heap[blk]? = some (.cells c T fz)) (hn : o + n * sz ≤ c.size) (m : Nat) :
  (Builtin.firstCells sz n (.slice (some ⟨blk, o, none⟩) m cap)).run P w = .ok ((List.range (n * sz)).map fun j => c.getD (o + j) undef).toArray w := by
 simp only [Builtin.firstCells]
 exact run_loadCells_at w hb hn

theorem news_slice {T : Option TypeId} {e : TypeId} {sz : Nat} (hs : elSize P e = some sz) {ys : List (List PV)} {v : Value} (h : SliceIs P E T ys v) (hT : T = none ∨ T = some e) : ∃ news, News P E e sz ys v news := by
 obtain ⟨A, cap, rfl, hcap, _, hq⟩ := h
 rcases hq with rfl | ⟨t, sz', blk, o, c, T', fz, rfl, hs', rfl, hb, hle, hk, hr⟩
 ·refine ⟨#[], ⟨fun w => by simp [Builtin.lenOf], fun w _ => ?_, by simp, fun i hi => by simp at hi, fun i j hi => by simp at hi⟩⟩
  cases A <;> simp [Builtin.firstCells, loadCells, loadCellsFrom]
 ·have : t = e := by rcases hT with h | h <;> simp at h; exact h
  subst this
  rw [hs] at hs'
  obtain rfl := Option.some.inj hs'
  refine ⟨_, ⟨fun w => by simp [Builtin.lenOf], fun w hw => firstCells_at (by rw [hw]; exact hb) hle _, by simp, hk, fun i j hi hj => ?_⟩⟩
  have : (i + 1) * sz ≤ ys.length * sz := Nat.mul_le_mul_right _ hi
  rw [Nat.add_mul, Nat.one_mul] at this
  rw [getD_map_range _ _ _ (by omega), ← Nat.add_assoc]
  exact hr i j hi hj

theorem news_string {e : TypeId} (hk : kdOf P e = .int .u8) {sz : Nat} (hs : elSize P e = some sz) (s : ByteArray) : ∃ news, News P E e sz (bytesOf s) (.string s) news := by
 have hsz : sz = 1 := by
  obtain ⟨_, _, _, h, _⟩ := elSize_spec hs
  rw [h, kds_int hk]
  rfl
 subst hsz
 have hl : (bytesOf s).length = s.size := by simp [bytesOf]
 have hd : ∀ i, i < s.size → s.data.toList.getD i 0 = s.data[i]?.getD 0 := fun i _ => by rw [List.getD, Array.getElem?_toList]
 have hg : ∀ i, i < s.size → (bytesOf s).getD i [] = [.int .u8 (s.data.toList.getD i 0).toNat] := by
  intro i hi
  have hi' : i < s.data.size := hi
  rw [hd i hi, Array.getElem?_eq_getElem hi']
  simp only [bytesOf, List.getD, List.getElem?_map, Array.getElem?_toList, Array.getElem?_eq_getElem hi']
  rfl
 refine ⟨s.data.map fun b => Value.int .u8 b.toNat, ⟨fun w => by simp [Builtin.lenOf, hl], fun w _ => ?_, by simp [hl], fun i hi => ?_, fun i j hi hj => ?_⟩⟩
 ·simp only [Builtin.firstCells, hl]
  have : (s.extract 0 s.size).data = s.data := by
   rw [ByteArray.data_extract]
   exact Array.extract_size
  rw [this]
  rfl
 ·rw [hg i (by omega), kds_int hk]
  simp [cellsOK, cellOK]
 ·obtain rfl : j = 0 := by omega
  have hi' : i < s.data.size := by rw [hl] at hi; exact hi
  rw [hg i (by omega)]
  have : (s.data.map fun b => Value.int IntKind.u8 b.toNat).getD (i * 1 + 0) undef = .int .u8 (s.data.toList.getD i 0).toNat := by
   have hi2 : i * 1 + 0 < (s.data.map fun b => Value.int IntKind.u8 b.toNat).size := by simpa using hi'
   rw [hd i (by omega), Array.getElem?_eq_getElem hi', Array.getD, dif_pos hi2]
   simp
  rw [this]
  exact .int _ _

theorem News.one {e : TypeId} {sz : Nat} {ys : List (List PV)} {v : Value} {news : Array Value} (h : News P E e sz ys v news) (hs : elSize P e = some sz) : ∀ u ∈ news.toList, u.oneCell' = true := by
 intro u hu
 obtain ⟨k, hk, rfl⟩ := mem_getD hu
 obtain ⟨_, _, _, hkl, h0⟩ := elSize_spec hs
 rw [h.size] at hk
 have hi : k / sz < ys.length := (Nat.div_lt_iff_lt_mul h0).2 hk
 have hj : k % sz < sz := Nat.mod_lt _ h0
 have := h.rep (k / sz) (k % sz) hi hj
 rw [Nat.mul_comm, Nat.div_add_mod] at this
 obtain ⟨l1, l2⟩ := cellsOK_getD (h.ok _ hi)
 have hkd : (kds P e)[k % sz]? = some ((kds P e)[k % sz]'(by omega)) := by simp
 exact rep_oneCell_ok this (l2 _ _ hkd)

theorem getD_append (xs ys : List (List PV)) (i : Nat) : (xs ++ ys).getD i [] = if i < xs.length then xs.getD i [] else ys.getD (i - xs.length) [] := by
 simp only [List.getD]
 split
 ·rename_i h; rw [List.getElem?_append_left h]
 ·rename_i h; rw [List.getElem?_append_right (by omega)]

theorem kill_al {al : Option Nat} {h : Heap} (ha : AlOK h al) {b : Nat} {x : Blk} (hb : h[b]? = some x) (hx : x ≠ .res) : AlOK (h.set b .dead) al := by
 cases al with
 | none => trivial
 | some s =>
  have : h[s]? = some .res := ha
  show (h.set b .dead)[s]? = some .res
  rw [List.getElem?_set]
  split
  ·rename_i e
   subst e
   rw [hb] at this
   exact absurd (Option.some.inj this) hx
  ·exact this

/-- a row that is read no more -/
theorem kill_env (hI : Inv P E) {b : Nat} {t : TypeId} {es : List (List PV)} {l : Bool} (hb : E.h[b]? = some (.arr t es l)) :
  ∃ E', E'.w = E.w ∧ E'.h = E.h.set b .dead ∧ Trans E E' ∧ Inv P E' := by
 have hlt := lt_of_some hb
 let E' : Env := { w := E.w, h := E.h.set b .dead, ρ := E.ρ, im := E.im }
 have hsame : (E.h.set b .dead)[b]? = some .dead := by simp [hlt]
 have hoth : ∀ i : Nat, i ≠ b → (E.h.set b .dead)[i]? = E.h[i]? := fun i hi => by rw [List.getElem?_set, if_neg (Ne.symm hi)]
 have conv : ∀ i k, OwnB E' i k → OwnB E i k ∧ i ≠ b := by
  intro i k h
  by_cases e : i = b
  ·subst e
   have h1 : E'.h[i]? = some .dead := hsame
   rcases h with ⟨o, _, ⟨_, _, hh⟩ | ⟨_, _, hh⟩⟩ | ⟨_, _, _, _, _, _, hh, _⟩ <;> rw [h1] at hh <;> cases hh
  ·exact ⟨OwnB.keep (E := E) (E' := E') (hoth i e) rfl (fun _ _ _ => rfl) h, e⟩
 have hT : Trans E E' := by
  refine ⟨fun i => ?_, fun _ _ _ _ => rfl, fun _ h => h, Nat.le_refl _, rfl, rfl, rfl, fun _ _ _ => rfl, fun k c T fz h => ⟨c, h, rfl⟩, fun k _ ⟨i, hk⟩ => ⟨i, (conv i k hk).1⟩, fun _ _ h => .inl h⟩
  show Compat E.h[i]? (E.h.set b .dead)[i]?
  by_cases e : i = b
  ·subst e; rw [hsame, hb]; trivial
  ·rw [hoth i e]; exact Compat.refl _
 refine ⟨E', rfl, rfl, hT, ⟨fun i => ?_, fun i j k hi hj => hI.own i j k (conv i k hi).1 (conv j k hj).1, hI.imlt, hI.tabT hT⟩⟩
 by_cases e : i = b
 ·subst e
  unfold BlkAt
  rw [show E'.h[i]? = some .dead from hsame]
  trivial
 ·exact (hI.blk i).keep hI hT (hoth i e) rfl (fun _ _ _ => rfl) (fun _ _ h => h)

/-- in the row's own place -/
theorem append_room (hI : Inv P E) {al : Option Nat} (hal : AlOK E.h al) {e : TypeId} {sz : Nat} (hs : elSize P e = some sz) {b off n : Nat} {es0 : List (List PV)} (hb : E.h[b]? = some (.arr e es0 true)) (hle : off + n ≤ es0.length)
  {ys : List (List PV)} {vx : Value} {news : Array Value} (hn : News P E e sz ys vx news) {blk o cap : Nat} {c : Array Value} {T : TypeId} (hρ : E.ρ b = some (blk, o)) (hw : E.w.heap[blk]? = some (.cells c T (0, 0)))
  (hc : o + (off + cap) * sz ≤ c.size) (hroom : n + ys.length ≤ cap) :
  Res P E (allocAt al (E.h.set b .dead) (.arr e (((es0.drop off).take n) ++ ys) true)).2 (.all (allocAt al (E.h.set b .dead) (.arr e (((es0.drop off).take n) ++ ys) true)).1)
   (.slice (some ⟨blk, o + off * sz, none⟩) (n + ys.length) cap) (E.w.setRow blk (wr c (o + off * sz + n * sz) news.toList)) := by
 have hlt := lt_of_some hb
 have hlen : ((es0.drop off).take n).length = n := by simp; omega
 generalize hes : (es0.drop off).take n ++ ys = es
 have hesl : es.length = n + ys.length := by rw [← hes, List.length_append, hlen]
 have hal0 : AlOK (E.h.set b .dead) al := kill_al hal hb (by simp)
 obtain ⟨a1, a2, a3⟩ := alloc_spec hal0 (.arr e es true)
 generalize hid : (allocAt al (E.h.set b .dead) (.arr e es true)).1 = id at *
 generalize hh' : (allocAt al (E.h.set b .dead) (.arr e es true)).2 = h' at *
 have hsame : (E.h.set b .dead)[b]? = some .dead := by simp [hlt]
 have hoth : ∀ i : Nat, i ≠ b → (E.h.set b .dead)[i]? = E.h[i]? := fun i hi => by rw [List.getElem?_set, if_neg (Ne.symm hi)]
 have hidb : id ≠ b := by
  rintro rfl
  rw [hsame] at a3
  rcases a3 with a3 | a3 <;> cases a3
 have hE3 : E.h[id]? = none ∨ E.h[id]? = some .res := by rw [← hoth id hidb]; exact a3
 have hold : ∀ i : Nat, i ≠ id → i ≠ b → h'[i]? = E.h[i]? := fun i h1 h2 => (a2 i h1).trans (hoth i h2)
 have hbd : h'[b]? = some .dead := (a2 b (Ne.symm hidb)).trans hsame
 have hcap : (off + cap) * sz = off * sz + cap * sz := Nat.add_mul _ _ _
 have hnm : (n + ys.length) * sz ≤ cap * sz := Nat.mul_le_mul_right _ hroom
 rw [Nat.add_mul] at hnm
 have hfit : o + off * sz + n * sz + news.toList.length ≤ c.size := by simp [hn.size]; omega
 have hlB : live E.h[b]? := .inl ⟨e, es0, hb⟩
 have hownb : OwnB E b blk := .inl ⟨o, hρ, hlB⟩
 have hownB : Owned E blk := ⟨b, hownb⟩
 let E' : Env := { w := E.w.setRow blk (wr c (o + off * sz + n * sz) news.toList), h := h', ρ := upd E.ρ id (some (blk, o + off * sz)), im := E.im }
 have hρ' : E'.ρ id = some (blk, o + off * sz) := upd_same _ _ _
 have hρo : ∀ i, i ≠ id → E'.ρ i = E.ρ i := fun i hi => upd_other _ _ _ _ hi
 have conv : ∀ i k, i ≠ id → OwnB E' i k → OwnB E i k ∧ i ≠ b := by
  intro i k h1 h
  by_cases e2 : i = b
  ·subst e2
   have h1 : E'.h[i]? = some .dead := hbd
   rcases h with ⟨o, _, ⟨_, _, hh⟩ | ⟨_, _, hh⟩⟩ | ⟨_, _, _, _, _, _, hh, _⟩ <;> rw [h1] at hh <;> cases hh
  ·refine ⟨OwnB.keep (E := E) (E' := E') (hold i h1 e2) (hρo i h1) (fun ob hρo' hbm => ?_) h, e2⟩
   obtain ⟨eo, clock, h2⟩ := hI.mapOb hρo' hbm
   refine setRow_other _ _ _ _ fun ek => ?_
   subst ek
   rw [hw] at h2
   cases h2
 have convid : ∀ k, OwnB E' id k → k = blk := by
  intro k h
  have h1 : E'.h[id]? = some (.arr e es true) := a1
  rcases h with ⟨o', hr', _⟩ | ⟨_, _, _, _, _, _, hh, _⟩
  ·rw [hρ'] at hr'; cases hr'; rfl
  ·rw [h1] at hh; cases hh
 have hT : Trans E E' := by
  refine ⟨fun i => ?_, fun i hi hr hd => ?_, fun _ h => h, by rw [show E'.w = _ from rfl, World.setRow_size]; exact Nat.le_refl _, rfl, rfl, rfl, fun k _ hk => setRow_other _ _ _ _ fun e2 => hk (e2 ▸ hownB), fun k c0 T0 fz hk => ?_, fun k _ hk => ?_, fun _ _ h => .inl h⟩
  ·show Compat E.h[i]? h'[i]?
   by_cases e1 : i = id
   ·subst e1
    rcases hE3 with h3 | h3
    ·rw [h3]; trivial
    ·rw [h3, a1]; trivial
   ·by_cases e2 : i = b
    ·subst e2; rw [hb, hbd]; trivial
    ·rw [hold i e1 e2]; exact Compat.refl _
  ·refine hρo i fun e1 => ?_
   subst e1
   rcases hE3 with h3 | h3
   ·simp [hi] at h3
   ·exact hr h3
  ·by_cases e2 : k = blk
   ·subst e2
    rw [hw] at hk
    cases hk
    exact ⟨_, setRow_heap _ _ _ _ _ _ hw, wr_size hfit⟩
   ·exact ⟨c0, by rw [← hk]; exact setRow_other _ _ _ _ e2, rfl⟩
  ·obtain ⟨i, ho⟩ := hk
   by_cases e1 : i = id
   ·subst e1
    rw [convid k ho]
    exact hownB
   ·exact ⟨i, (conv i k e1 ho).1⟩
 have hB := hI.blk b
 unfold BlkAt at hB
 rw [hb] at hB
 simp only [hρ] at hB
 obtain ⟨hk, sz', c1, T1, hs', h2, h3, h4, h5, h6⟩ := hB
 rw [hs] at hs'
 obtain rfl := Option.some.inj hs'
 rw [hw] at h2
 cases h2
 have hgetl : ∀ i, i < n → es.getD i [] = es0.getD (off + i) [] := by
  intro i hi
  rw [← hes, getD_append, if_pos (by omega), getD_drop_take_l _ _ _ _ hi]
 have hgetr : ∀ i, n ≤ i → es.getD i [] = ys.getD (i - n) [] := by
  intro i hi
  rw [← hes, getD_append, if_neg (by omega), hlen]
 have hblk : BlkAt P E' id := by
  unfold BlkAt
  rw [show E'.h[id]? = some (.arr e es true) from a1]
  refine ⟨fun i hi => ?_, ?_⟩
  ·by_cases hin : i < n
   ·rw [hgetl i hin]; exact hk _ (by omega)
   ·rw [hgetr i (by omega)]; exact hn.ok _ (by omega)
  ·rw [hρ']
   have hsl : es.length * sz = n * sz + ys.length * sz := by rw [hesl, Nat.add_mul]
   refine ⟨sz, _, T, hs, setRow_heap _ _ _ _ _ _ hw, by rw [wr_size hfit]; omega, fun i j hi hj => ?_, fun _ => h5 trivial, fun h => by cases h⟩
   rw [wr_getD hfit, toList_getD]
   by_cases hin : i < n
   ·have : (i + 1) * sz ≤ n * sz := Nat.mul_le_mul_right _ hin
    rw [Nat.add_mul, Nat.one_mul] at this
    rw [if_neg (by omega), hgetl i hin]
    have := h4 (off + i) j (by omega) hj
    rw [Nat.add_mul, ← Nat.add_assoc] at this
    exact this.mono hI hT
   ·obtain ⟨m, rfl⟩ : ∃ m, i = n + m := ⟨i - n, by omega⟩
    have hm : m < ys.length := by omega
    have h9 : (m + 1) * sz ≤ ys.length * sz := Nat.mul_le_mul_right _ hm
    rw [Nat.add_mul, Nat.one_mul] at h9
    have h8 : (n + m) * sz = n * sz + m * sz := Nat.add_mul _ _ _
    rw [if_pos (by simp [hn.size]; omega), hgetr _ (by omega), show n + m - n = m by omega, show o + off * sz + (n + m) * sz + j - (o + off * sz + n * sz) = m * sz + j by omega]
    exact (hn.rep m j hm hj).mono hI hT
 refine ⟨E', rfl, rfl, hT, ⟨fun i => ?_, fun i j k hi hj => ?_, fun k hk => by rw [show E'.w = _ from rfl, World.setRow_size]; exact hI.imlt k hk, hI.tabT hT⟩, .all _ es.length _ ?_ ?_⟩
 ·by_cases e1 : i = id
  ·subst e1; exact hblk
  ·by_cases e2 : i = b
   ·subst e2
    unfold BlkAt
    rw [show E'.h[i]? = some .dead from hbd]
    trivial
   ·exact (hI.blk i).keep hI hT (hold i e1 e2) (hρo i e1) (fun k hh _ => setRow_other _ _ _ _ (hh.ne hI hownb e2)) (fun _ _ h => h)
 ·by_cases e1 : i = id <;> by_cases e2 : j = id
  ·rw [e1, e2]
  ·subst e1
   have := convid k hi
   subst this
   obtain ⟨k1, k2⟩ := conv j k e2 hj
   exact absurd (hI.own j b k k1 hownb) k2
  ·subst e2
   have := convid k hj
   subst this
   obtain ⟨k1, k2⟩ := conv i k e1 hi
   exact absurd (hI.own i b k k1 hownb) k2
  ·exact hI.own i j k (conv i k e1 hi).1 (conv j k e2 hj).1
 ·intro t' es' l' e3
  rw [show E'.h[id]? = some (.arr e es true) from a1] at e3
  cases e3
  rfl
 ·unfold SlcAt
  rw [show E'.h[id]? = some (.arr e es true) from a1]
  refine ⟨by omega, sz, _, cap, hs, by rw [hesl], by omega, ?_⟩
  by_cases h0 : cap = 0
  ·exact .inl h0
  ·exact .inr ⟨blk, o + off * sz, _, T, hρ', by simp, setRow_heap _ _ _ _ _ _ hw, by rw [wr_size hfit]; simp; omega⟩

end
end Go.Pu
