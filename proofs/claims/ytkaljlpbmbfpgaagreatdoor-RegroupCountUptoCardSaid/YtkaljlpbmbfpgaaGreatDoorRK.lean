/- The pure machine, eleventh part: stores, and what is appended. -/
import Derived.Test.YtkaljlpbmbfpgaaGreatDoorRJ
set_option linter.unusedSimpArgs false
namespace Go.Pu

section
variable {P : Program} {E : Env}

theorem rep_oneCell {h : Heap} (hh : E.h = h) {x : PV} {v : Value} (hx : Rep P E x v) (hc : cell1 x = true) (ho : okv h x = true) : v.oneCell' = true := by
 subst hh
 cases hx with
 | top => simp [cell1] at hc
 | agg => simp [cell1] at hc
 | tuple => simp [cell1] at hc
 | all b n v hn hs =>
  simp only [okv] at ho
  unfold SlcAt at hs
  split at ho
  ·rename_i hb
   rw [hb] at hs
   obtain ⟨_, sz, A, cap, _, rfl, _⟩ := hs
   rfl
  ·simp at ho
 | own b off n v hs =>
  simp only [okv] at ho
  unfold SlcAt at hs
  split at ho
  ·rename_i hb
   rw [hb] at hs
   obtain ⟨_, sz, A, cap, _, rfl, _⟩ := hs
   rfl
  ·simp at ho
 | ptr b off v hs => obtain ⟨_, _, rfl⟩ := alive_ptr (P := P) (by simpa only [okv] using ho) (.ptr b off v hs); rfl
 | aptr b i off v hs => obtain ⟨_, _, rfl⟩ := alive_ptr (by simpa only [okv] using ho) (.aptr b i off v hs); rfl
 | mp b v hh =>
  simp only [okv] at ho
  unfold MapPtr at hh
  split at ho
  ·rename_i hb
   rw [hb] at hh
   obtain ⟨_, _, rfl⟩ := hh
   rfl
  ·cases ho
 | _ => rfl

theorem rep_oneCell_ok {x : PV} {v : Value} (hx : Rep P E x v) {k : Kd} (hc : cellOK k x = true) : v.oneCell' = true := by
 cases hx <;> first | rfl | (cases k <;> simp [cellOK] at hc)

theorem World.setRow_size (w : World) (g : Nat) (cs : Array Value) : (w.setRow g cs).heap.size = w.heap.size := by simp [World.setRow]

/-- a write into a block of one's own -/
theorem write_env (hI : Inv P E) {b blk o : Nat} (hρ : E.ρ b = some (blk, o)) (hl : live E.h[b]?) {nb : Blk} (hc : Compat E.h[b]? (some nb)) {c c' : Array Value} {T : TypeId}
  (hw : E.w.heap[blk]? = some (.cells c T (0, 0))) (hs : c'.size = c.size) {E' : Env} (hE : E' = { w := E.w.setRow blk c', h := E.h.set b nb, ρ := E.ρ, im := E.im }) :
  Trans E E' ∧ (BlkAt P E' b → Inv P E') := by
 subst hE
 have hlt : b < E.h.length := by
  rcases hl with ⟨t, es, h⟩ | ⟨t, cs, h⟩ <;> exact lt_of_some h
 have hsame : (E.h.set b nb)[b]? = some nb := by simp [hlt]
 have hoth : ∀ i : Nat, i ≠ b → (E.h.set b nb)[i]? = E.h[i]? := fun i hi => by rw [List.getElem?_set, if_neg (Ne.symm hi)]
 have hownb : OwnB E b blk := .inl ⟨o, hρ, hl⟩
 have hownB : Owned E blk := ⟨b, hownb⟩
 have hconv : ∀ i k, OwnB { w := E.w.setRow blk c', h := E.h.set b nb, ρ := E.ρ, im := E.im } i k → OwnB E i k := by
  intro i k h
  by_cases e : i = b
  ·subst e
   rcases h with ⟨o', hρ', hh⟩ | ⟨t, es, st, ob, eo, clock, h1, _⟩
   ·exact .inl ⟨o', hρ', hl⟩
   ·rw [show (E.h.set i nb)[i]? = some nb from hsame] at h1
    cases h1
    rcases hl with ⟨t', es', hx⟩ | ⟨t', cs', hx⟩
    ·rw [hx] at hc; exact hc.elim
    ·rw [hx] at hc; exact hc.elim
  ·refine OwnB.keep (E := E) (E' := { w := E.w.setRow blk c', h := E.h.set b nb, ρ := E.ρ, im := E.im }) (hoth i e) rfl (fun ob hρo hb => ?_) h
   obtain ⟨eo, clock, h2⟩ := hI.mapOb hρo hb
   refine setRow_other _ _ _ _ fun ek => ?_
   subst ek
   rw [hw] at h2
   cases h2
 have hT : Trans E { w := E.w.setRow blk c', h := E.h.set b nb, ρ := E.ρ, im := E.im } := by
  refine ⟨fun i => ?_, fun _ _ _ _ => rfl, fun _ h => h, by rw [World.setRow_size]; exact Nat.le_refl _, rfl, rfl, rfl, fun k _ hk => ?_, fun k c0 T0 fz hk => ?_, fun k _ ⟨i, hk⟩ => ⟨i, hconv i k hk⟩, fun _ _ h => .inl h⟩
  ·show Compat E.h[i]? (E.h.set b nb)[i]?
   by_cases e : i = b
   ·subst e; rw [hsame]; exact hc
   ·rw [hoth i e]; exact Compat.refl _
  ·exact setRow_other _ _ _ _ fun e => hk (e ▸ hownB)
  ·by_cases e : k = blk
   ·subst e
    rw [hw] at hk
    cases hk
    exact ⟨c', setRow_heap _ _ _ _ _ _ hw, hs⟩
   ·exact ⟨c0, by rw [← hk]; exact setRow_other _ _ _ _ e, rfl⟩
 refine ⟨hT, fun hB => ⟨fun i => ?_, fun i j k hi hj => hI.own i j k (hconv i k hi) (hconv j k hj), fun k hk => by rw [World.setRow_size]; exact hI.imlt k hk, hI.tabT hT⟩⟩
 by_cases e : i = b
 ·subst e; exact hB
 ·exact (hI.blk i).keep hI hT (hoth i e) rfl (fun k hh _ => setRow_other _ _ _ _ (hh.ne hI hownb e)) (fun _ _ h => h)

def wr (c : Array Value) (o : Nat) (vs : List Value) : Array Value := (c.toList.take (o + 0) ++ vs ++ c.toList.drop (o + 0 + vs.length)).toArray

theorem wr_size {c : Array Value} {o : Nat} {vs : List Value} (h : o + vs.length ≤ c.size) : (wr c o vs).size = c.size := by
 simp [wr]; omega

theorem wr_getD {c : Array Value} {o : Nat} {vs : List Value} (h : o + vs.length ≤ c.size) (k : Nat) :
  (wr c o vs).getD k undef = if o ≤ k ∧ k < o + vs.length then vs.getD (k - o) undef else c.getD k undef := by
 have e : ∀ (a : Array Value) k, a.getD k undef = a.toList.getD k undef := by
  intro a k
  rw [List.getD, Array.getElem?_toList]
  by_cases hb : k < a.size
  ·rw [Array.getElem?_eq_getElem hb, Array.getD, dif_pos hb]; rfl
  ·rw [Array.getElem?_eq_none (by omega), Array.getD, dif_neg hb]; rfl
 rw [e, e]
 simp only [wr, Nat.add_zero, List.getD]
 by_cases h1 : k < o
 ·rw [if_neg (by omega), List.append_assoc, List.getElem?_append_left (by simp; omega), List.getElem?_take, if_pos h1]
 ·by_cases h2 : k < o + vs.length
  ·rw [if_pos ⟨by omega, h2⟩, List.append_assoc, List.getElem?_append_right (by simp; omega), List.getElem?_append_left (by simp; omega)]
   congr 2
   simp
   omega
  ·rw [if_neg (by omega), List.getElem?_append_right (by simp; omega), List.getElem?_drop]
   congr 2
   simp
   omega

theorem run_storeVar {t : TypeId} {i : TypeInfo} (hi : P.info? t = some i) {blk o : Nat} {c : Array Value} {T : TypeId} {v : Value} (hs : v.cells.size = i.size) {w : World} (hw : w.heap[blk]? = some (.cells c T (0, 0)))
  (hle : o + v.cells.size ≤ c.size) (h1 : ∀ u ∈ v.cells.toList, u.oneCell' = true) : (Instr.storeAt t (.pointer (some ⟨blk, o, none⟩)) v).run P w = .ok () (w.setRow blk (wr c o v.cells.toList)) := by
 have hst := run_storeCells_at P blk o T v.cells.toList 0 c w hw (by simpa using hle) h1
 simp only [Instr.storeAt, Instr.sureAddr, Sem.run_bind, Sem.run_pure, Result.andThen_ok, storeVar, run_sizeOf w hi, hs, ne_eq, not_true_eq_false, if_false]
 exact hst

theorem toList_getD (a : Array Value) (k : Nat) : a.toList.getD k undef = a.getD k undef := by
 rw [List.getD, Array.getElem?_toList]
 by_cases hb : k < a.size
 ·rw [Array.getElem?_eq_getElem hb, Array.getD, dif_pos hb]; rfl
 ·rw [Array.getElem?_eq_none (by omega), Array.getD, dif_neg hb]; rfl

theorem mem_getD {a : Array Value} {u : Value} (h : u ∈ a.toList) : ∃ j, j < a.size ∧ a.getD j undef = u := by
 obtain ⟨j, hj, rfl⟩ := List.getElem_of_mem h
 have hj' : j < a.size := by simpa using hj
 exact ⟨j, hj', by simp [Array.getD, hj']⟩

theorem cellsOK_of : ∀ {ks : List Kd} {cs : List PV}, cs.length = ks.length → (∀ (j : Nat) (k : Kd), ks[j]? = some k → cellOK k (cs.getD j .top) = true) → cellsOK ks cs = true
 | [], [], _, _ => rfl
 | k :: ks, c :: cs, hl, h => by
  simp only [cellsOK, Bool.and_eq_true]
  exact ⟨by simpa using h 0 k rfl, cellsOK_of (by simpa using hl) fun j k' hj => by simpa using h (j + 1) k' (by simpa using hj)⟩
 | [], _ :: _, hl, _ => by simp at hl
 | _ :: _, [], hl, _ => by simp at hl

theorem storeOp_run (hI : Inv P E) {t : TypeId} {a x : PV} {h' : Heap} (h : storeOp P t E.h a x = some h') {va vx : Value} (ha : Rep P E a va) (hx : Rep P E x vx) :
  ∃ w', (Instr.storeAt t va vx).run P E.w = .ok () w' ∧ Step P E h' w' fun _ => True := by
 unfold storeOp at h
 cases hi : P.info? t with
 | none => simp [hi] at h
 | some i =>
  simp only [hi] at h
  split at h
  ·simp at h
  ·rename_i hc
   simp only [not_or, Bool.not_eq_false, Decidable.not_not] at hc
   obtain ⟨hs, h1, hok, hoks⟩ := hc
   have hcs := okv_cells hx hok
   have hone : ∀ u ∈ vx.cells.toList, u.oneCell' = true := by
    intro u hu
    obtain ⟨j, hj, rfl⟩ := mem_getD hu
    have hjl : j < x.cells.length := by rw [hcs.1]; exact hj
    have hm : x.cells.getD j .top ∈ x.cells := by
     rw [List.getD, List.getElem?_eq_getElem hjl]
     exact List.getElem_mem hjl
    exact rep_oneCell rfl (hcs.2 j hjl) (List.all_eq_true.1 h1 _ hm) (List.all_eq_true.1 hoks _ hm)
   have hvs : vx.cells.size = i.size := by rw [← hcs.1]; exact hs
   split at h
   ·rename_i b off
    split at h
    ·rename_i T cs hb
     split at h
     ·rename_i hle
      obtain rfl := Option.some.inj h
      cases ha with
      | ptr _ _ _ hh =>
       unfold PtrAt at hh
       rw [hb] at hh
       obtain ⟨blk, o, hρ, rfl⟩ := hh
       have hB := hI.blk b
       unfold BlkAt at hB
       rw [hb] at hB
       obtain ⟨blk', o', c, T', h1', h2, h3, h4, h5⟩ := hB
       rw [hρ] at h1'
       obtain ⟨rfl, rfl⟩ := Prod.mk.inj (Option.some.inj h1')
       have hfit : o + off + vx.cells.toList.length ≤ c.size := by simp; omega
       obtain ⟨s1, s2⟩ := setCells_spec x.cells cs off (by omega)
       obtain ⟨hT, hN⟩ := write_env hI hρ (.inr ⟨T, cs, hb⟩) (nb := .box T (setCells cs off x.cells)) (by rw [hb]; exact ⟨rfl, s1⟩) h2 (wr_size hfit) rfl
       refine ⟨_, run_storeVar hi hvs h2 (by simpa using hfit) hone, _, rfl, rfl, hT, hN ?_, trivial⟩
       unfold BlkAt
       rw [show (E.h.set b (.box T (setCells cs off x.cells)))[b]? = some (.box T (setCells cs off x.cells)) by simp [lt_of_some hb]]
       refine ⟨blk, o, _, T', hρ, setRow_heap _ _ _ _ _ _ h2, by rw [s1, wr_size hfit]; exact h3, fun j hj => ?_, h5⟩
       rw [s1] at hj
       rw [s2, wr_getD hfit]
       by_cases hk : off ≤ j ∧ j < off + x.cells.length
       ·rw [if_pos hk, if_pos (by simp; omega), toList_getD]
        have := hcs.2 (j - off) (by omega)
        rw [show o + j - (o + off) = j - off by omega]
        exact this.mono hI hT
       ·rw [if_neg hk, if_neg (by simp; omega)]
        exact (h4 j hj).mono hI hT
     ·simp at h
    ·simp at h
   ·rename_i b j off
    split at h
    ·rename_i T es hb
     split at h
     ·rename_i hle
      cases hp : purCells E.h (((kds P T).drop off).take i.size) x.cells with
      | none => simp [hp] at h
      | some r =>
       obtain ⟨ys, hh1⟩ := r
       simp only [hp, Option.bind_some] at h
       split at h
       ·rename_i t2 es2 hb2
        obtain rfl := Option.some.inj h
        obtain ⟨E1, e1, e2, e3, e4, e5, e6, e7⟩ := purCells_env (vs := vx.cells.toList) hI hp (by simpa using hcs.1) (fun j hj => by rw [toList_getD]; exact hcs.2 j hj)
        have hb1 : E1.h[b]? = some (.arr t2 es2 true) := by rw [e2]; exact hb2
        have hcomp := e3.compat b
        rw [hb, hb1] at hcomp
        obtain ⟨rfl, hlen, _⟩ := hcomp
        have ha1 := ha.mono hI e3
        cases ha1 with
        | aptr _ _ _ _ hh =>
         unfold AptrAt at hh
         rw [hb1] at hh
         obtain ⟨hj, sz, blk, o, hsz, hρ, rfl⟩ := hh
         have hB := e4.blk b
         unfold BlkAt at hB
         rw [hb1] at hB
         simp only [hρ] at hB
         obtain ⟨hk, sz', c, T', hs', h2, h3, h4, h5, h6⟩ := hB
         rw [hsz] at hs'
         obtain rfl := Option.some.inj hs'
         obtain ⟨_, _, _, hkl, h0⟩ := elSize_spec hsz
         have hyl : ys.length = i.size := by omega
         have hel : (es2.getD j []).length = sz := by rw [(cellsOK_getD (hk j hj)).1, hkl]
         have hoff : off + i.size ≤ sz := by rw [hkl]; exact hle.2
         have hmul : (j + 1) * sz ≤ es2.length * sz := Nat.mul_le_mul_right _ hj
         rw [Nat.add_mul, Nat.one_mul] at hmul
         have hfit : o + j * sz + off + vx.cells.toList.length ≤ c.size := by simp; omega
         obtain ⟨s1, s2⟩ := setCells_spec ys (es2.getD j []) off (by omega)
         have hw1 : E1.w.heap[blk]? = some (.cells c T' (0, 0)) := h2
         obtain ⟨hT, hN⟩ := write_env e4 hρ (.inl ⟨T, es2, hb1⟩) (nb := .arr T (es2.set j (setCells (es2.getD j []) off ys)) true) (by rw [hb1]; exact ⟨rfl, by simp, id⟩) h2 (wr_size hfit) rfl
         rw [← e1]
         refine ⟨_, run_storeVar hi hvs h2 (by simpa using hfit) hone, _, rfl, by rw [e2], e3.trans hT, hN ?_, trivial⟩
         unfold BlkAt
         rw [show (E1.h.set b (.arr T (es2.set j (setCells (es2.getD j []) off ys)) true))[b]? = some (.arr T (es2.set j (setCells (es2.getD j []) off ys)) true) by simp [lt_of_some hb1]]
         have hget : ∀ q, q < es2.length → (es2.set j (setCells (es2.getD j []) off ys)).getD q [] = if j = q then setCells (es2.getD j []) off ys else es2.getD q [] := by
          intro q hq
          by_cases e : j = q
          ·subst e; rw [if_pos rfl, getD_set_same _ _ _ _ hj]
          ·rw [if_neg e, getD_set_other _ _ _ _ _ e]
         refine ⟨fun q hq => ?_, ?_⟩
         ·have hq' : q < es2.length := by simpa using hq
          rw [hget q hq']
          by_cases e : j = q
          ·subst e
           rw [if_pos rfl]
           obtain ⟨l1, l2⟩ := cellsOK_getD (hk j hj)
           obtain ⟨l3, l4⟩ := cellsOK_getD e6
           refine cellsOK_of (by rw [s1]; exact l1) fun r k' hr => ?_
           rw [s2]
           by_cases hkk : off ≤ r ∧ r < off + ys.length
           ·rw [if_pos hkk]
            refine l4 (r - off) k' ?_
            rw [List.getElem?_take, if_pos (by omega), List.getElem?_drop, show off + (r - off) = r by omega]
            exact hr
           ·rw [if_neg hkk]
            exact l2 r k' hr
          ·rw [if_neg e]
           exact hk q hq'
         ·show match E1.ρ b with | none => _ | some (blk, o) => _
          rw [hρ]
          refine ⟨sz, _, T', hsz, setRow_heap _ _ _ _ _ _ h2, by rw [wr_size hfit]; simpa using h3, fun q r hq hr => ?_, (fun _ => h5 trivial), (fun h => by cases h)⟩
          have hq' : q < es2.length := by simpa using hq
          rw [hget q hq', wr_getD hfit]
          by_cases e : j = q
          ·subst e
           rw [if_pos rfl, s2]
           by_cases hkk : off ≤ r ∧ r < off + ys.length
           ·rw [if_pos hkk, if_pos (by simp; omega), show o + j * sz + r - (o + j * sz + off) = r - off by omega]
            exact (e7 (r - off) (by omega)).mono e4 hT
           ·rw [if_neg hkk, if_neg (by simp; omega)]
            exact (h4 j r hj hr).mono e4 hT
          ·rw [if_neg e, if_neg]
           ·exact (h4 q r hq' hr).mono e4 hT
           ·rcases Nat.lt_or_gt_of_ne e with hlt | hgt
            ·have : (j + 1) * sz ≤ q * sz := Nat.mul_le_mul_right _ hlt
             rw [Nat.add_mul, Nat.one_mul] at this
             simp; omega
            ·have : (q + 1) * sz ≤ j * sz := Nat.mul_le_mul_right _ hgt
             rw [Nat.add_mul, Nat.one_mul] at this
             simp; omega
       ·simp at h
     ·simp at h
    ·simp at h
   ·simp at h

end
end Go.Pu
