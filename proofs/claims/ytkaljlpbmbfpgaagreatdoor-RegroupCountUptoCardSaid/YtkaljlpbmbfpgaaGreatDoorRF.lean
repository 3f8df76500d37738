/- The pure machine, sixth part: operations that read memory. -/
import Derived.Test.YtkaljlpbmbfpgaaGreatDoorRE
import Derived.Laws.BytesArg
set_option linter.unusedSimpArgs false
namespace Go.Pu

section
variable {P : Program} {E : Env}

/-- what is told of a slice's value whose content is told -/
def SliceIs (P : Program) (E : Env) (T : Option TypeId) (es : List (List PV)) (v : Value) : Prop :=
 ∃ A cap, v = .slice A es.length cap ∧ es.length ≤ cap ∧ ((T = none → es = [] ∧ A = none ∧ cap = 0) ∧ (A = none → cap = 0)) ∧
  (es = [] ∨ ∃ t sz blk o c T' fz, T = some t ∧ elSize P t = some sz ∧ A = some ⟨blk, o, none⟩ ∧ E.w.heap[blk]? = some (.cells c T' fz) ∧ o + es.length * sz ≤ c.size ∧
   (∀ i, i < es.length → cellsOK (kds P t) (es.getD i []) = true) ∧
   (∀ i j, i < es.length → j < sz → Rep P E ((es.getD i []).getD j .top) (c.getD (o + i * sz + j) undef)))

theorem getD_drop_take_l (es : List (List PV)) (off n i : Nat) (hi : i < n) : ((es.drop off).take n).getD i [] = es.getD (off + i) [] := by
 simp [List.getD, List.getElem?_take, hi, List.getElem?_drop]

theorem own_is (hI : Inv P E) {b off n : Nat} {t : TypeId} {es : List (List PV)} {l : Bool} {v : Value} (hb : E.h[b]? = some (.arr t es l)) (h : SlcAt P E b off n v) (hle : off + n ≤ es.length) :
  SliceIs P E (some t) ((es.drop off).take n) v := by
 have hlen : ((es.drop off).take n).length = n := by simp; omega
 unfold SlcAt at h
 rw [hb] at h
 obtain ⟨_, sz, A, cap, hs, hv, hn, hh⟩ := h
 refine ⟨A, cap, by rw [hlen]; exact hv, by rw [hlen]; exact hn, ⟨(fun e => by cases e), fun e => by
  rcases hh with h0 | ⟨blk, o, c, T, h1, h2, h3, h4⟩
  ·exact h0
  ·rw [e] at h2; cases h2⟩, ?_⟩
 rcases hh with h0 | ⟨blk, o, c, T, h1, h2, h3, h4⟩
 ·exact .inl (List.eq_nil_of_length_eq_zero (by omega))
 ·by_cases hn0 : n = 0
  ·exact .inl (List.eq_nil_of_length_eq_zero (by omega))
  ·have hB := hI.blk b
   unfold BlkAt at hB
   rw [hb] at hB
   simp only [h1] at hB
   obtain ⟨hk, sz', c', T', hs', hb', hle', hr, _⟩ := hB
   rw [hs] at hs'
   obtain rfl := Option.some.inj hs'
   rw [h3] at hb'
   cases hb'
   refine .inr ⟨t, sz, blk, o + off * sz, c, T, (0, 0), rfl, hs, h2, h3, ?_, fun i hi => ?_, fun i j hi hj => ?_⟩
   ·rw [hlen]
    have : (off + n) * sz ≤ es.length * sz := Nat.mul_le_mul_right _ hle
    rw [Nat.add_mul] at this
    omega
   ·rw [hlen] at hi
    rw [getD_drop_take_l _ _ _ _ hi]
    exact hk _ (by omega)
   ·rw [hlen] at hi
    rw [getD_drop_take_l _ _ _ _ hi]
    have := hr (off + i) j (by omega) hj
    rw [Nat.add_mul, ← Nat.add_assoc] at this
    exact this

theorem content_rep (hI : Inv P E) {x : PV} {T : Option TypeId} {es : List (List PV)} (h : content E.h x = some (T, es)) {v : Value} (hx : Rep P E x v) : SliceIs P E T es v := by
 unfold content at h
 cases x <;> simp only [reduceCtorEq] at h
 case nils =>
  simp only [Option.some.injEq, Prod.mk.injEq] at h
  obtain ⟨rfl, rfl⟩ := h
  obtain rfl := hx.nils_inv
  exact ⟨none, 0, rfl, Nat.le_refl _, ⟨fun _ => ⟨rfl, rfl, rfl⟩, fun _ => rfl⟩, .inl rfl⟩
 case lst t es' =>
  simp only [Option.some.injEq, Prod.mk.injEq] at h
  obtain ⟨rfl, rfl⟩ := h
  cases hx with
  | lst0 t A cap hA => exact ⟨A, cap, rfl, Nat.zero_le _, ⟨(fun e => by cases e), hA⟩, .inl rfl⟩
  | lst t es blk o cap sz c T fz hs hb him hcap hlen hk hr =>
   exact ⟨_, cap, rfl, hcap, ⟨(fun e => by cases e), fun e => by cases e⟩, .inr ⟨t, sz, blk, o, c, T, fz, rfl, hs, rfl, hb, hlen, hk, hr⟩⟩
 case new t es' =>
  simp only [Option.some.injEq, Prod.mk.injEq] at h
  obtain ⟨rfl, rfl⟩ := h
  cases hx with
  | zcap _ A => exact ⟨A, 0, rfl, Nat.le_refl _, ⟨(fun e => by cases e), fun _ => rfl⟩, .inl rfl⟩
  | zany _ _ _ A cap hA => exact ⟨A, cap, rfl, Nat.zero_le _, ⟨(fun e => by cases e), fun e => absurd e hA⟩, .inl rfl⟩
 case all b =>
  split at h
  ·rename_i t es' l hb
   simp only [Option.some.injEq, Prod.mk.injEq] at h
   obtain ⟨rfl, rfl⟩ := h
   cases hx with
   | all _ n _ hn hh =>
    have := own_is hI hb hh (by rw [hn t es' l hb]; omega)
    rw [hn t es' l hb] at this
    simpa using this
  ·simp at h
 case own b off n =>
  split at h
  ·rename_i t es' l hb
   split at h
   ·rename_i hle
    simp only [Option.some.injEq, Prod.mk.injEq] at h
    obtain ⟨rfl, rfl⟩ := h
    cases hx with
    | own _ _ _ _ hh => exact own_is hI hb hh hle
   ·simp at h
  ·simp at h

theorem lenOp_run (hI : Inv P E) {t : TypeId} {x r : PV} (h : lenOp P t E.h x = some r) {v : Value} (hx : Rep P E x v) (ty : TypeId) (w : World) :
  ∃ u, (Builtin.len_ #[t] ty #[v]).run P w = .ok u w ∧ Rep P E r u := by
 have slc : ∀ {T : Option TypeId} {es : List (List PV)} {e : TypeId}, SliceIs P E T es v → P.underlying t = some (.slice e) → r = .int .i64 es.length → ∃ u, (Builtin.len_ #[t] ty #[v]).run P w = .ok u w ∧ Rep P E r u := by
  rintro T es e ⟨A, cap, rfl, _⟩ hd rfl
  exact ⟨.int .i64 es.length, by simp [Builtin.len_, run_underlying hd, goInt], .int _ _⟩
 unfold lenOp at h
 split at h
 ·rename_i s hd
  obtain rfl := hx.str_inv
  obtain rfl := Option.some.inj h
  exact ⟨.int .i64 _, by simp [Builtin.len_, run_underlying hd, goInt], .int _ _⟩
 ·rename_i hd
  rename_i e b off n
  split at h
  ·rename_i t' es l hb
   split at h
   ·rename_i hle
    obtain rfl := Option.some.inj h
    cases hx with
    | own _ _ _ _ hh =>
     have := own_is hI hb hh hle
     refine slc this hd ?_
     simp; omega
   ·simp at h
  ·simp at h
 ·rename_i y _ _ e hd _
  cases hc : content E.h y with
  | none => simp [hc] at h
  | some c =>
   simp only [hc, Option.map_some, Option.some.injEq] at h
   exact slc (content_rep hI (T := c.1) (es := c.2) hc hx) hd h.symm
 ·simp at h

theorem loadOp_run (hI : Inv P E) {t : TypeId} {a x : PV} (h : loadOp P t E.h a = some x) {v : Value} (ha : Rep P E a v) :
  ∃ u, (Instr.loadAt t v).run P E.w = .ok u E.w ∧ Rep P E x u := by
 unfold loadOp at h
 cases a <;> simp only [reduceCtorEq] at h
 case ptr b off =>
  split at h
  ·rename_i T cs hb
   cases ha with
   | ptr _ _ _ hh =>
    unfold PtrAt at hh
    rw [hb] at hh
    obtain ⟨blk, o, h1, rfl⟩ := hh
    have hB := hI.blk b
    unfold BlkAt at hB
    rw [hb] at hB
    obtain ⟨blk', o', c, T', h1', h2, h3, h4, _⟩ := hB
    rw [h1] at h1'
    obtain ⟨rfl, rfl⟩ := Prod.mk.inj (Option.some.inj h1')
    obtain ⟨u, e1, e2⟩ := loadBox_rep E.w h h2 h3 h4
    exact ⟨u, by simpa [Instr.loadAt, Instr.sureAddr] using e1, e2⟩
  ·simp at h
 case aptr b i off =>
  split at h
  ·rename_i T es l hb
   split at h
   ·rename_i hi
    cases ha with
    | aptr _ _ _ _ hh =>
     unfold AptrAt at hh
     rw [hb] at hh
     obtain ⟨_, sz, blk, o, hs, h1, rfl⟩ := hh
     have hB := hI.blk b
     unfold BlkAt at hB
     rw [hb] at hB
     simp only [h1] at hB
     obtain ⟨hk, sz', c, T', hs', hb', hle, hr, _⟩ := hB
     rw [hs] at hs'
     obtain rfl := Option.some.inj hs'
     obtain ⟨_, _, _, hsz, _⟩ := elSize_spec hs
     have hl := (cellsOK_getD (hk i hi)).1
     have hm : (i + 1) * sz ≤ es.length * sz := Nat.mul_le_mul_right _ hi
     rw [Nat.add_mul, Nat.one_mul] at hm
     obtain ⟨u, e1, e2⟩ := loadEl_rep (E := E) E.w h (o := o + i * sz) hb' (by rw [hl, ← hsz]; omega) (hk i hi) (fun j hj => hr i j hi (by omega))
     exact ⟨u, by simpa [Instr.loadAt, Instr.sureAddr] using e1, e2⟩
   ·simp at h
  ·simp at h
 case eptr T cs off =>
  cases ha with
  | eptr _ _ _ blk o c T' fz hb him hlen hk hr =>
   obtain ⟨u, e1, e2⟩ := loadEl_rep (E := E) E.w h hb hlen hk hr
   exact ⟨u, by simpa [Instr.loadAt, Instr.sureAddr] using e1, e2⟩

theorem alive_ptr {a : PV} (h : aliveP E.h a = true) {v : Value} (ha : Rep P E a v) : ∃ blk k, v = .pointer (some ⟨blk, k, none⟩) := by
 unfold aliveP at h
 cases a <;> simp only [reduceCtorEq, Bool.false_eq_true] at h
 case ptr b off =>
  cases ha with
  | ptr _ _ _ hh =>
   unfold PtrAt at hh
   split at h
   ·rename_i hb
    rw [hb] at hh
    obtain ⟨blk, o, _, rfl⟩ := hh
    exact ⟨_, _, rfl⟩
   ·simp at h
 case aptr b i off =>
  cases ha with
  | aptr _ _ _ _ hh =>
   unfold AptrAt at hh
   split at h
   ·rename_i hb
    rw [hb] at hh
    obtain ⟨_, sz, blk, o, _, _, rfl⟩ := hh
    exact ⟨_, _, rfl⟩
   ·simp at h
 case eptr => cases ha; exact ⟨_, _, rfl⟩

theorem moved_rep {a : PV} {blk k : Nat} (ha : Rep P E a (.pointer (some ⟨blk, k, none⟩))) (hal : aliveP E.h a = true) (n : Nat) : Rep P E (moved a n) (.pointer (some ⟨blk, k + n, none⟩)) := by
 unfold aliveP at hal
 cases a <;> simp only [reduceCtorEq, Bool.false_eq_true] at hal
 case ptr b off =>
  cases ha with
  | ptr _ _ _ hh =>
   refine .ptr _ _ _ ?_
   unfold PtrAt at hh ⊢
   split at hal
   ·rename_i hb
    rw [hb] at hh ⊢
    obtain ⟨blk', o, h1, h2⟩ := hh
    cases h2
    exact ⟨_, o, h1, by rw [Nat.add_assoc]⟩
   ·simp at hal
 case aptr b i off =>
  cases ha with
  | aptr _ _ _ _ hh =>
   refine .aptr _ _ _ _ ?_
   unfold AptrAt at hh ⊢
   split at hal
   ·rename_i hb
    rw [hb] at hh ⊢
    obtain ⟨h0, sz, blk', o, hs, h1, h2⟩ := hh
    cases h2
    exact ⟨h0, sz, _, o, hs, h1, by rw [Nat.add_assoc]⟩
   ·simp at hal
 case eptr T cs off =>
  cases ha with
  | eptr _ _ _ blk' o c T' fz hb him hlen hk hr =>
   rw [Nat.add_assoc]
   exact .eptr T cs (off + n) _ o c T' fz hb him hlen hk hr

theorem fieldAddrOp_run {t : TypeId} {a x : PV} {f : Nat} (h : fieldAddrOp P t E.h a f = some x) {v : Value} (ha : Rep P E a v) (w : World) :
  ∃ u, (Instr.fieldAt t v f).run P w = .ok u w ∧ Rep P E x u := by
 unfold fieldAddrOp at h
 cases hu : P.underlying t with
 | none => rw [hu] at h; simp at h
 | some d =>
  rw [hu] at h
  cases d <;> simp only [reduceCtorEq] at h
  case struct fs =>
  cases hf : fs[f]? with
  | none => simp [hf] at h
  | some fd =>
   cases hi : P.info? fd.type with
   | none => simp [hf, hi] at h
   | some i =>
    simp only [hf, hi, Option.bind_some] at h
    split at h
    ·simp at h
    ·rename_i hc
     simp only [not_or, Bool.not_eq_false] at hc
     obtain rfl := Option.some.inj h
     obtain ⟨blk, k, rfl⟩ := alive_ptr hc.2 ha
     refine ⟨_, ?_, moved_rep ha hc.2 fd.offset⟩
     simp [Instr.fieldAt, run_underlying hu, hf, Instr.sureAddr, fieldPlace, run_sizeOf w hi, hc.1, Addr.add_lit]

theorem fieldOp_run {t : TypeId} {x r : PV} {f : Nat} (h : fieldOp P t x f = some r) {v : Value} (hx : Rep P E x v) (w : World) :
  ∃ u, (Instr.field t v f).run P w = .ok u w ∧ Rep P E r u := by
 unfold fieldOp at h
 cases hu : P.underlying t with
 | none => rw [hu] at h; simp at h
 | some d =>
  rw [hu] at h
  cases d <;> (try simp only [reduceCtorEq] at h)
  case struct fs =>
   cases x <;> simp only [reduceCtorEq] at h
   case agg cs =>
    cases hf : fs[f]? with
    | none => simp [hf] at h
    | some fd =>
     simp only [hf, Option.bind_some] at h
     cases hx with
     | agg _ vs hl hr =>
      obtain ⟨u, e1, e2⟩ := part_rep (E := E) w h hl hr
      exact ⟨u, by simp [Instr.field, run_underlying hu, hf, asAgg, e1], e2⟩

theorem index_str (s : ByteArray) (n : Int) (h0 : 0 ≤ n) (h1 : n < s.size) : s[n.toNat]? = some (s.data.toList.getD n.toNat 0) := by
 have hlt : n.toNat < s.size := by omega
 have hlt' : n.toNat < s.data.size := hlt
 rw [getElem?_pos s n.toNat hlt]
 congr 1
 have e : s[n.toNat] = s.data[n.toNat] := rfl
 rw [e, List.getD, Array.getElem?_toList, Array.getElem?_eq_getElem hlt']
 rfl

theorem indexOp_run {t : TypeId} {x i r : PV} (h : indexOp P t x i = some r) {v vi : Value} (hx : Rep P E x v) (hi : Rep P E i vi) (w : World) :
  ∃ u, (Instr.index t v vi).run P w = .ok u w ∧ Rep P E r u := by
 unfold indexOp at h
 split at h
 ·rename_i hu
  obtain rfl := hx.str_inv
  obtain rfl := hi.int_inv
  rename_i s k n
  split at h
  ·rename_i hb
   obtain rfl := Option.some.inj h
   have e := index_str s n hb.1 hb.2
   exact ⟨_, by simp [Instr.index, asIntOf, run_underlying hu, hb.1, e], .int _ _⟩
  ·simp at h
 ·rename_i hu
  obtain rfl := hi.int_inv
  rename_i len e cs k n
  cases hg : P.info? e with
  | none => simp [hg] at h
  | some g =>
   simp only [hg, Option.bind_some] at h
   split at h
   ·rename_i hb
    cases hx with
    | agg _ vs hl hr =>
     obtain ⟨u, e1, e2⟩ := part_rep (E := E) w h hl hr
     exact ⟨u, by simp [Instr.index, asIntOf, run_underlying hu, hb.1, hb.2, run_sizeOf w hg, e1], e2⟩
   ·simp at h
 ·simp at h

theorem run_indexAt_slice {t e : TypeId} (hu : P.underlying t = some (.slice e)) {g : TypeInfo} (hg : P.info? e = some g) {blk o len cap : Nat} {k : IntKind} {n : Int} (h0 : 0 ≤ n) (h1 : n < len) (w : World) :
  (Instr.indexAt t (.slice (some ⟨blk, o, none⟩) len cap) (.int k n)).run P w = .ok (.pointer (some ⟨blk, o + n.toNat * g.size, none⟩)) w := by
 simp [Instr.indexAt, asIntOf, run_underlying hu, h0, h1, run_sizeOf w hg, Addr.add_lit]

theorem indexAddrOp_run (hI : Inv P E) {t : TypeId} {x i r : PV} (h : indexAddrOp P t E.h x i = some r) {v vi : Value} (hx : Rep P E x v) (hi : Rep P E i vi) (w : World) :
  ∃ u, (Instr.indexAt t v vi).run P w = .ok u w ∧ Rep P E r u := by
 unfold indexAddrOp at h
 split at h
 ·rename_i hu
  rename_i e k n
  obtain rfl := hi.int_inv
  split at h
  ·simp at h
  ·rename_i hel
   obtain ⟨sz, hsz⟩ := Option.ne_none_iff_exists'.1 hel
   obtain ⟨g, hg, hgs, hk, h0⟩ := elSize_spec hsz
   cases x <;> simp only [reduceCtorEq] at h
   case lst T es =>
    split at h
    ·rename_i hc
     obtain ⟨rfl, hn0, hn1⟩ := hc
     obtain rfl := Option.some.inj h
     have hS := content_rep hI (x := .lst T es) rfl hx
     obtain ⟨A, cap, rfl, hcap, _, hh⟩ := hS
     have hlt : n.toNat < es.length := by omega
     rcases hh with rfl | ⟨t', sz', blk, o, c, T', fz, he, hs', rfl, hb, hlen, hks, hr⟩
     ·simp at hlt
     ·obtain rfl := Option.some.inj he
      rw [hsz] at hs'
      obtain rfl := Option.some.inj hs'
      refine ⟨_, run_indexAt_slice hu hg hn0 hn1 w, ?_⟩
      have him : E.im blk := by
       cases hx with
       | lst0 => simp at hlt
       | lst _ _ _ _ _ _ _ _ _ _ _ him => exact him
      have hl := (cellsOK_getD (hks _ hlt)).1
      have hm : (n.toNat + 1) * sz ≤ es.length * sz := Nat.mul_le_mul_right _ hlt
      rw [Nat.add_mul, Nat.one_mul] at hm
      rw [hgs]
      exact .eptr T _ 0 blk (o + n.toNat * sz) c T' fz hb him (by rw [hl, ← hk]; omega) (hks _ hlt) (fun j hj => hr _ j hlt (by omega))
    ·simp at h
   case all b =>
    split at h
    ·rename_i T es l hb
     split at h
     ·rename_i hc
      obtain ⟨rfl, hn0, hn1⟩ := hc
      obtain rfl := Option.some.inj h
      have hlt : n.toNat < es.length := by omega
      cases hx with
      | all _ m _ hm hh =>
       obtain rfl := hm T es l hb
       unfold SlcAt at hh
       rw [hb] at hh
       obtain ⟨_, sz', A, cap, hs', rfl, hcap, hq⟩ := hh
       rw [hsz] at hs'
       obtain rfl := Option.some.inj hs'
       rcases hq with hq | ⟨blk, o, c, T', h1, rfl, h3, h4⟩
       ·omega
       ·refine ⟨_, run_indexAt_slice hu hg hn0 hn1 w, .aptr _ _ _ _ ?_⟩
        unfold AptrAt
        rw [hb]
        exact ⟨hlt, sz, blk, o, hsz, h1, by rw [hgs]; simp⟩
     ·simp at h
    ·simp at h
   case own b off m =>
    split at h
    ·rename_i T es l hb
     split at h
     ·rename_i hc
      obtain ⟨rfl, hn0, hn1, hn2⟩ := hc
      obtain rfl := Option.some.inj h
      cases hx with
      | own _ _ _ _ hh =>
       unfold SlcAt at hh
       rw [hb] at hh
       obtain ⟨_, sz', A, cap, hs', rfl, hcap, hq⟩ := hh
       rw [hsz] at hs'
       obtain rfl := Option.some.inj hs'
       rcases hq with hq | ⟨blk, o, c, T', h1, rfl, h3, h4⟩
       ·omega
       ·refine ⟨_, run_indexAt_slice hu hg hn0 hn1 w, .aptr _ _ _ _ ?_⟩
        unfold AptrAt
        rw [hb]
        exact ⟨hn2, sz, blk, o, hsz, h1, by rw [hgs, Nat.add_mul]; simp [Nat.add_assoc]⟩
     ·simp at h
    ·simp at h
 ·rename_i hu
  rename_i len e k n
  obtain rfl := hi.int_inv
  cases x <;> simp only [reduceCtorEq] at h
  case ptr b off =>
   cases hg : P.info? e with
   | none => simp [hg] at h
   | some g =>
    simp only [hg, Option.bind_some] at h
    split at h
    ·rename_i hc
     obtain rfl := Option.some.inj h
     obtain ⟨blk, k', rfl⟩ := alive_ptr hc.2.2 hx
     refine ⟨_, ?_, moved_rep hx hc.2.2 (n.toNat * g.size)⟩
     simp [Instr.indexAt, asIntOf, run_underlying hu, Instr.sureAddr, hc.1, hc.2.1, run_sizeOf w hg, Addr.add_lit]
    ·simp at h
 ·simp at h

end
end Go.Pu
