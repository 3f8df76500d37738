/- The pure machine, thirteenth part: append, make. -/
import Derived.Test.YtkaljlpbmbfpgaaGreatDoorRL
import Derived.Laws.AppendOwn
set_option linter.unusedSimpArgs false
namespace Go.Pu

section
variable {P : Program} {E : Env}

def sliceOrString (d : TypeDesc) : Bool := match d with | .slice _ | .string => true | _ => false

theorem run_append_room' {tys : Array TypeId} {sT xT ty e : TypeId} {d : TypeDesc} {g : TypeInfo} {sz n cap m : Nat} {A : Option Addr} {vx : Value} {news : Array Value} {w w1 : World}
  (h0 : tys[0]? = some sT) (h1 : tys[1]? = some xT) (hu : P.underlying sT = some (.slice e)) (hx : P.underlying xT = some d) (hd : sliceOrString d = true) (hg : P.info? e = some g) (hgs : g.size = sz)
  (hlen : (Builtin.lenOf vx).run P w = .ok m w) (hnew : (Builtin.firstCells sz m vx).run P w = .ok news w) (hroom : n + m ≤ cap)
  (hst : ∀ a, A = some a → (storeCells (a.add (n * sz)) news.toList).run P w = .ok () w1) (hst0 : A = none → w1 = w) :
  (Builtin.append_ tys ty #[.slice A n cap, vx]).run P w = .ok (.slice A (n + m) cap) w1 := by
 have hz : (match d with | .int _ => true | _ => false) = false := by cases d <;> first | rfl | simp [sliceOrString] at hd
 cases A with
 | none =>
  obtain rfl := hst0 rfl
  cases d <;> simp [sliceOrString] at hd <;> simp [Builtin.append_, h0, h1, run_underlying hu, run_underlying hx, run_sizeOf w1 hg, hgs, hlen, hnew, hroom]
 | some a =>
  have := hst a rfl
  cases d <;> simp [sliceOrString] at hd <;> simp [Builtin.append_, h0, h1, run_underlying hu, run_underlying hx, run_sizeOf w hg, hgs, hlen, hnew, hroom, this]

theorem run_append_grow' {tys : Array TypeId} {sT xT ty e : TypeId} {d : TypeDesc} {g : TypeInfo} {z : Value} {sz n cap m : Nat} {A : Option Addr} {vx : Value} {olds news : Array Value} {w : World}
  (h0 : tys[0]? = some sT) (h1 : tys[1]? = some xT) (hu : P.underlying sT = some (.slice e)) (hx : P.underlying xT = some d) (hd : sliceOrString d = true) (hg : P.info? e = some g) (hgs : g.size = sz) (hz : g.zero = some z)
  (hlen : (Builtin.lenOf vx).run P w = .ok m w) (hnew : (Builtin.firstCells sz m vx).run P w.drew = .ok news w.drew) (hold : (Builtin.firstCells sz n (.slice A n cap)).run P w.drew = .ok olds w.drew)
  (hroom : cap < n + m) (hb : (n + m) * g.bytes ≤ 140737488355328) (hb0 : 0 < g.bytes) :
  (Builtin.append_ tys ty #[.slice A n cap, vx]).run P w =
   .ok (.slice (some ⟨w.heap.size, 0, none⟩) (n + m) (grownCap w (n + m) cap e)) (w.drew.alloc (.cells (olds ++ news ++ Builtin.zeroCells z.cells (grownCap w (n + m) cap e - (n + m))) e)) := by
 have hnr : ¬ (n + m ≤ cap) := by omega
 have h48 : ¬ (281474976710656 < Builtin.nextslicecap (n + m) cap * g.bytes) := by have := growslice_fits hroom hb; omega
 have hbz : ¬ g.bytes = 0 := by omega
 have hq : (Question.appendCap (n + m) cap e).forced = false := rfl
 have hlen' : (n : Int) + (m : Int) ≤ 9223372036854775807 := by
  have : n + m ≤ (n + m) * g.bytes := Nat.le_mul_of_pos_right _ hb0
  omega
 have h63' : ¬ (9223372036854775807 < ((n : Int) + (m : Int))) := by omega
 have e1 : ({ heap := w.heap, tape := w.tape, drawn := w.drawn + 1, os := w.os, output := w.output } : World) = w.drew := rfl
 cases d <;> simp [sliceOrString] at hd <;>
  simp [Builtin.append_, h0, h1, run_underlying hu, run_underlying hx, run_sizeOf w hg, hgs, hlen, hnr, h63', h48, hbz, run_typeInfo w hg, run_choose, hq, e1, hold, hnew, run_zeroValue w.drew hg hz, run_typeInfo w.drew hg, newRow] <;>
  exact ⟨rfl, rfl⟩

theorem size_zeroCells' (z : Array Value) (n : Nat) : (Builtin.zeroCells z n).size = n * z.size := by simp [Builtin.zeroCells]

theorem arr_append_getD (a b : Array Value) (k : Nat) : (a ++ b).getD k undef = if k < a.size then a.getD k undef else b.getD (k - a.size) undef := by
 rw [← toList_getD, ← toList_getD, ← toList_getD, Array.toList_append]
 simp only [List.getD]
 by_cases h : k < a.size
 ·rw [if_pos h, List.getElem?_append_left (by simpa using h)]
 ·rw [if_neg h, List.getElem?_append_right (by simp; omega)]
  simp

/-- a new row for both -/
theorem append_new (hI : Inv P E) {al : Option Nat} (hal : AlOK E.h al) {e : TypeId} {sz : Nat} (hs : elSize P e = some sz) {es ys : List (List PV)} {vs vx : Value} {olds news : Array Value} (ho : News P E e sz es vs olds) (hn : News P E e sz ys vx news)
  (zs : Array Value) {cap : Nat} (hcap : es.length + ys.length ≤ cap) (hzs : zs.size = (cap - (es.length + ys.length)) * sz) :
  Res P E (allocAt al E.h (.arr e (es ++ ys) true)).2 (.all (allocAt al E.h (.arr e (es ++ ys) true)).1) (.slice (some ⟨E.w.heap.size, 0, none⟩) (es.length + ys.length) cap) (E.w.drew.alloc (.cells (olds ++ news ++ zs) e)) := by
 have hg : Grow E.w (E.w.drew.alloc (.cells (olds ++ news ++ zs) e)) := by
  refine ⟨by show _ ≤ (E.w.heap.push _).size; simp, rfl, rfl, rfl, fun k hk => ?_⟩
  show (E.w.heap.push _)[k]? = E.w.heap[k]?
  simp [Array.getElem?_push, Nat.ne_of_lt hk]
 have hsz : (olds ++ news ++ zs).size = cap * sz := by
  simp only [Array.size_append, ho.size, hn.size, hzs, ← Nat.add_mul]
  congr 1
  omega
 have h2 : (es ++ ys).length * sz = es.length * sz + ys.length * sz := by rw [List.length_append, Nat.add_mul]
 have h3 : (es.length + ys.length) * sz ≤ cap * sz := Nat.mul_le_mul_right _ hcap
 rw [Nat.add_mul] at h3
 have := add_arr hI hal e e hs (es := es ++ ys) (c := olds ++ news ++ zs) (w' := E.w.drew.alloc (.cells (olds ++ news ++ zs) e)) (blk := E.w.heap.size) hg (Nat.le_refl _)
  (show (E.w.heap.push _)[E.w.heap.size]? = _ by simp) (by omega) (fun i hi => by
   rw [getD_append]
   split
   ·exact ho.ok i (by assumption)
   ·rw [List.length_append] at hi; exact hn.ok _ (by omega)) (fun i j hi hj => by
   rw [List.length_append] at hi
   have hm : (i + 1) * sz ≤ (es.length + ys.length) * sz := Nat.mul_le_mul_right _ hi
   rw [Nat.add_mul, Nat.one_mul, Nat.add_mul] at hm
   have hon : (olds ++ news).size = es.length * sz + ys.length * sz := by rw [Array.size_append, ho.size, hn.size]
   by_cases hin : i < es.length
   ·have h9 : (i + 1) * sz ≤ es.length * sz := Nat.mul_le_mul_right _ hin
    rw [Nat.add_mul, Nat.one_mul] at h9
    rw [getD_append, if_pos hin, arr_append_getD, if_pos (by omega), arr_append_getD, if_pos (by rw [ho.size]; omega)]
    exact ho.rep i j hin hj
   ·obtain ⟨m, rfl⟩ : ∃ m, i = es.length + m := ⟨i - es.length, by omega⟩
    have h8 : (es.length + m) * sz = es.length * sz + m * sz := Nat.add_mul _ _ _
    rw [getD_append, if_neg hin, arr_append_getD, if_pos (by omega), arr_append_getD, if_neg (by rw [ho.size]; omega), ho.size, show es.length + m - es.length = m by omega, show (es.length + m) * sz + j - es.length * sz = m * sz + j by omega]
    exact hn.rep m j (by omega) hj) (cap := cap) (by rw [List.length_append]; exact hcap) (by omega)
 rw [List.length_append] at this
 exact this

theorem appendOp_run (hI : Inv P E) {tys : Array TypeId} {s x r : PV} {h' : Heap} {al : Option Nat} (h : appendOp P tys E.h s x al = some (r, h')) (hal : AlOK E.h al) {vs vx : Value} (hs : Rep P E s vs) (hx : Rep P E x vx) (ty : TypeId) :
  ∃ v w', (Builtin.append_ tys ty #[vs, vx]).run P E.w = .ok v w' ∧ Res P E h' r v w' := by
 unfold appendOp at h
 cases h0 : tys[0]? with
 | none => rw [h0] at h; simp at h
 | some sT =>
 cases h1 : tys[1]? with
 | none => rw [h0, h1] at h; simp at h
 | some xT =>
 rw [h0, h1] at h
 simp only at h
 have key : ∃ d, P.underlying xT = some d ∧ sliceOrString d = true ∧ ((elemOf P sT).bind fun e => (elSize P e).bind fun _ => (P.info? e).bind fun i => (content E.h s).bind fun c => (tail P E.h e x).bind fun ys =>
    if (c.1 = none ∨ c.1 = some e) ∧ (c.2.length + ys.length) * i.bytes ≤ 140737488355328 ∧ 0 < i.bytes then
     (drop1 E.h s).bind fun h' => let r := allocAt al h' (.arr e (c.2 ++ ys) true); some (PV.all r.1, r.2)
    else none) = some (r, h') := by
  split at h
  ·rename_i hd; exact ⟨_, hd, rfl, h⟩
  ·rename_i hd; exact ⟨_, hd, rfl, h⟩
  ·simp at h
 obtain ⟨d, hxT, hd, h⟩ := key
 cases he : elemOf P sT with
 | none => simp [he] at h
 | some e =>
 cases hsz : elSize P e with
 | none => simp [he, hsz] at h
 | some sz =>
 obtain ⟨g, z, hg, hgs, hkl, h00, hz, hzc⟩ := elSize_zero hsz
 cases hc : content E.h s with
 | none => simp [he, hsz, hg, hc] at h
 | some c =>
 cases ht : tail P E.h e x with
 | none => simp [he, hsz, hg, hc, ht] at h
 | some ys =>
 simp only [he, hsz, hg, hc, ht, Option.bind_some] at h
 split at h
 ·rename_i hcnd
  obtain ⟨hT, hby, hb0⟩ := hcnd
  have hu : P.underlying sT = some (.slice e) := by
   unfold elemOf at he
   split at he
   ·rename_i hu; cases he; exact hu
   ·simp at he
  -- what is appended
  have hN : ∃ news, News P E e sz ys vx news := by
   unfold tail at ht
   split at ht
   ·rename_i str
    obtain rfl := hx.str_inv
    split at ht
    ·rename_i hk8
     cases ht
     exact news_string hk8 hsz str
    ·simp at ht
   ·cases hc2 : content E.h x with
    | none => simp [hc2] at ht
    | some c2 =>
     simp only [hc2, Option.bind_some] at ht
     split at ht
     ·rename_i hT2
      cases ht
      exact news_slice hsz (content_rep hI (T := c2.1) (es := c2.2) hc2 hx) hT2
     ·simp at ht
  obtain ⟨news, hN⟩ := hN
  -- what it is appended to
  have hS := content_rep hI (T := c.1) (es := c.2) hc hs
  obtain ⟨olds, hO⟩ := news_slice hsz hS hT
  obtain ⟨A, cap, rfl, hcap, hnil, hq⟩ := hS
  cases hd1 : drop1 E.h s with
  | none => simp [hd1] at h
  | some h0' =>
  simp only [hd1, Option.bind_some, Option.some.injEq, Prod.mk.injEq] at h
  obtain ⟨rfl, rfl⟩ := h
  have hdrop : ((s = .nils ∨ ∃ t, s = .new t []) ∧ h0' = E.h) ∨ ∃ b t es0, ((s = .all b) ∨ ∃ off n, s = .own b off n) ∧ E.h[b]? = some (.arr t es0 true) ∧ h0' = E.h.set b .dead := by
   unfold drop1 at hd1
   split at hd1
   ·cases hd1; exact .inl ⟨.inl rfl, rfl⟩
   ·cases hd1; exact .inl ⟨.inr ⟨_, rfl⟩, rfl⟩
   ·split at hd1
    ·rename_i hb; cases hd1; exact .inr ⟨_, _, _, .inl rfl, hb, rfl⟩
    ·simp at hd1
   ·split at hd1
    ·rename_i hb; cases hd1; exact .inr ⟨_, _, _, .inr ⟨_, _, rfl⟩, hb, rfl⟩
    ·simp at hd1
   ·simp at hd1
  -- the state behind the old row's end
  have hkill : ∃ E1, E1.w = E.w ∧ E1.h = h0' ∧ Trans E E1 ∧ Inv P E1 ∧ AlOK E1.h al := by
   rcases hdrop with ⟨_, rfl⟩ | ⟨b, t, es0, _, hb, rfl⟩
   ·exact ⟨E, rfl, rfl, Trans.refl E, hI, hal⟩
   ·obtain ⟨E1, e1, e2, e3, e4⟩ := kill_env hI hb
    exact ⟨E1, e1, e2, e3, e4, by rw [e2]; exact kill_al hal hb (by simp)⟩
  obtain ⟨E1, e1, e2, e3, e4, e5⟩ := hkill
  by_cases hroom : c.2.length + ys.length ≤ cap
  ·by_cases hcap0 : cap = 0
   ·-- nothing there, nothing comes
    have hl0 : c.2 = [] := List.eq_nil_of_length_eq_zero (by omega)
    have hy0 : ys = [] := List.eq_nil_of_length_eq_zero (by omega)
    have hnews : news = #[] := by
     have := hN.size
     rw [hy0] at this
     simp at this
     exact this
    refine ⟨_, _, run_append_room' (P := P) (w1 := E.w) h0 h1 hu hxT hd hg hgs (hN.len _) (hN.cells _ rfl) hroom (fun a _ => by rw [hnews]; simp [storeCells]) (fun _ => rfl), ?_⟩
    have := add_none e4 e5 e hsz A
    rw [e1, e2] at this
    rw [hl0, hy0, hcap0]
    exact this.trans e3
   ·rcases hdrop with ⟨rfl | ⟨t0, rfl⟩, _⟩ | ⟨b, t, es0, hsb, hb, rfl⟩
    ·exfalso
     simp [content] at hc
     subst hc
     obtain ⟨_, _, h3⟩ := hnil.1 rfl
     exact hcap0 h3
    ·exfalso
     have h9 : ∀ v, Rep P E (.new t0 []) v → ∃ A', v = .slice A' 0 0 := fun v hv => by cases hv; exact ⟨_, rfl⟩
     obtain ⟨A', e9⟩ := h9 _ hs
     simp only [Value.slice.injEq] at e9
     exact hcap0 e9.2.2
    ·-- in the row's own place
     have hown : ∃ off n, SlcAt P E b off n (.slice A c.2.length cap) ∧ n = c.2.length ∧ off + n ≤ es0.length ∧ c = (some t, (es0.drop off).take n) := by
      rcases hsb with rfl | ⟨off, n, rfl⟩
      ·simp only [content, hb, Option.some.injEq] at hc
       subst hc
       cases hs with
       | all _ n _ hn hh =>
        obtain rfl := hn _ _ _ hb
        exact ⟨0, es0.length, hh, rfl, by omega, by simp⟩
      ·simp only [content, hb] at hc
       split at hc
       ·rename_i hle
        cases hc
        cases hs with
        | own _ _ _ _ hh =>
         have hlen : ((es0.drop off).take n).length = n := by simp; omega
         exact ⟨off, n, hh, hlen.symm, hle, rfl⟩
       ·simp at hc
     obtain ⟨off, n, hh, hn, hle, hce⟩ := hown
     have hte : t = e := by
      rw [hce] at hT
      rcases hT with hT | hT <;> simp at hT
      exact hT
     subst hte
     unfold SlcAt at hh
     rw [hb] at hh
     obtain ⟨_, sz', A', cap', hsz', hv, hncap, hpos⟩ := hh
     rw [hsz] at hsz'
     obtain rfl := Option.some.inj hsz'
     obtain ⟨rfl, _, rfl⟩ : A = A' ∧ c.2.length = n ∧ cap = cap' := by simpa using hv
     rcases hpos with hpos | ⟨blk, o, cc, T, hρ, rfl, hw, hfit⟩
     ·exact absurd hpos hcap0
     ·have hst := run_storeCells_at P blk (o + off * sz + n * sz) T news.toList 0 cc E.w hw (by
       have q1 : (off + cap) * sz = off * sz + cap * sz := Nat.add_mul _ _ _
       have q2 : (n + ys.length) * sz ≤ cap * sz := Nat.mul_le_mul_right _ (by omega)
       rw [Nat.add_mul] at q2
       simp [hN.size]; omega) (hN.one hsz)
      refine ⟨_, _, run_append_room' (P := P) (w1 := E.w.setRow blk (wr cc (o + off * sz + n * sz) news.toList)) h0 h1 hu hxT hd hg hgs (hN.len _) (hN.cells _ rfl) hroom (fun a ha => by cases ha; rw [Addr.add_lit, ← hn]; exact hst) (fun hA => by cases hA), ?_⟩
      have := append_room hI hal hsz hb hle hN hρ hw hfit (by omega)
      rw [hce]
      have hlen : ((es0.drop off).take n).length = n := by simp; omega
      simp only [hlen]
      exact this
  ·-- a new row
   have hlt : cap < c.2.length + ys.length := by omega
   refine ⟨_, _, run_append_grow' (P := P) h0 h1 hu hxT hd hg hgs hz (hN.len _) (hN.cells _ rfl) (hO.cells _ rfl) hlt hby hb0, ?_⟩
   have hN1 : News P E1 e sz ys vx news := ⟨hN.len, fun w hw => hN.cells w (by rw [hw, e1]), hN.size, hN.ok, fun i j hi hj => (hN.rep i j hi hj).mono hI e3⟩
   have hO1 : News P E1 e sz c.2 (.slice A c.2.length cap) olds := ⟨hO.len, fun w hw => hO.cells w (by rw [hw, e1]), hO.size, hO.ok, fun i j hi hj => (hO.rep i j hi hj).mono hI e3⟩
   have hge := grownCap_ge E.w (c.2.length + ys.length) cap e
   have := append_new e4 e5 hsz hO1 hN1 (Builtin.zeroCells z.cells (grownCap E.w (c.2.length + ys.length) cap e - (c.2.length + ys.length))) hge (by rw [size_zeroCells', hzc])
   rw [e1, e2] at this
   exact this.trans e3
 ·simp at h

theorem purCell_nil {k : Kd} {x y : PV} {h1 : Heap} (h : purCell [] k x = some (y, h1)) {v : Value} (hx : Rep P E x v) : Rep P E y v ∧ cellOK k y = true := by
 unfold purCell at h
 split at h
 ·cases h
  obtain rfl := hx.nils_inv
  exact ⟨.lst0 _ _ _ (fun _ => rfl), by simp [cellOK]⟩
 ·simp at h
 ·simp at h
 ·split at h
  ·rename_i hk
   cases h
   exact ⟨hx, hk⟩
  ·simp at h

theorem purCell_nil_h {k : Kd} {x y : PV} {h1 : Heap} (h : purCell [] k x = some (y, h1)) : h1 = [] := by
 unfold purCell at h
 split at h
 ·cases h; rfl
 ·simp at h
 ·simp at h
 ·split at h
  ·cases h; rfl
  ·simp at h

theorem purCells_nil : ∀ {ks : List Kd} {xs ys : List PV} {h1 : Heap} {vs : List Value}, purCells [] ks xs = some (ys, h1) → xs.length = vs.length → (∀ j, j < xs.length → Rep P E (xs.getD j .top) (vs.getD j undef)) →
  ys.length = xs.length ∧ cellsOK ks ys = true ∧ ∀ j, j < ys.length → Rep P E (ys.getD j .top) (vs.getD j undef)
 | [], [], ys, h1, vs, h, _, _ => by
  simp only [purCells, Option.some.injEq, Prod.mk.injEq] at h
  obtain ⟨rfl, _⟩ := h
  exact ⟨rfl, rfl, fun j hj => by simp at hj⟩
 | [], _ :: _, _, _, _, h, _, _ => by simp [purCells] at h
 | _ :: _, [], _, _, _, h, _, _ => by simp [purCells] at h
 | _ :: _, _ :: _, _, _, [], _, hl, _ => by simp at hl
 | k :: ks, x :: xs, ys, h1, v :: vs, h, hl, hr => by
  simp only [purCells] at h
  cases hc : purCell [] k x with
  | none => simp [hc] at h
  | some r =>
   obtain ⟨y, h2⟩ := r
   simp only [hc, Option.bind_some] at h
   obtain rfl := purCell_nil_h hc
   cases hs : purCells [] ks xs with
   | none => simp [hs] at h
   | some s =>
    obtain ⟨zs, h3⟩ := s
    simp only [hs, Option.bind_some, Option.some.injEq, Prod.mk.injEq] at h
    obtain ⟨rfl, _⟩ := h
    obtain ⟨e1, e2⟩ := purCell_nil (P := P) (E := E) hc (by simpa using hr 0 (by simp))
    obtain ⟨i1, i2, i3⟩ := purCells_nil (vs := vs) hs (by simpa using hl) (fun j hj => by simpa using hr (j + 1) (by simp; exact hj))
    refine ⟨by simp [i1], by simp [cellsOK, e2, i2], fun j hj => ?_⟩
    cases j with
    | zero => simpa using e1
    | succ j => simpa using i3 j (by simpa using hj)

theorem zeroEl_ok {e : TypeId} {z : List PV} (h : zeroEl P e = some z) {g : TypeInfo} (hg : P.info? e = some g) {zv : Value} (hz : g.zero = some zv) :
  cellsOK (kds P e) z = true ∧ ∀ j, j < z.length → Rep P E (z.getD j .top) (zv.cells.getD j undef) := by
 unfold zeroEl zeroPV at h
 simp only [hg, hz, Option.bind_some, Option.map_some] at h
 cases hp : purCells [] (kds P e) (ofConst zv).cells with
 | none => simp [hp] at h
 | some r =>
  obtain ⟨ys, h1⟩ := r
  simp only [hp, Option.map_some, Option.some.injEq] at h
  subst h
  obtain ⟨l, hr⟩ := ofConst_cells (P := P) (E := E) zv
  obtain ⟨i1, i2, i3⟩ := purCells_nil (P := P) (E := E) (vs := zv.cells.toList) hp (by simpa using l) (fun j hj => by rw [toList_getD]; exact hr j hj)
  exact ⟨i2, fun j hj => by rw [← toList_getD]; exact i3 j hj⟩

theorem makeSlice_run (hI : Inv P E) {t : TypeId} {len cap r : PV} {al : Option Nat} {h' : Heap} (h : makeSliceOp P t len cap al E.h = some (r, h')) (hal : AlOK E.h al) {vl vc : Value} (hl : Rep P E len vl) (hc : Rep P E cap vc) :
  ∃ v w', (Instr.makeSlice t vl vc).run P E.w = .ok v w' ∧ Res P E h' r v w' := by
 unfold makeSliceOp at h
 split at h
 ·rename_i e n c hu
  obtain rfl := hl.int_inv
  obtain rfl := hc.int_inv
  cases hsz : elSize P e with
  | none => simp [hsz] at h
  | some sz =>
  obtain ⟨g, zv, hg, hgs, hkl, h00, hz, hzc⟩ := elSize_zero hsz
  cases hze : zeroEl P e with
  | none => simp [hsz, hg, hze] at h
  | some z =>
  simp only [hsz, hg, hze, Option.bind_some] at h
  split at h
  ·rename_i hcnd
   obtain ⟨c1, c2, c3, c4⟩ := hcnd
   simp only [Option.some.injEq, Prod.mk.injEq] at h
   obtain ⟨rfl, rfl⟩ := h
   obtain ⟨zk, zr⟩ := zeroEl_ok (P := P) (E := E) hze hg hz
   have hzl : z.length = sz := by rw [(cellsOK_getD zk).1, hkl]
   have w1 : IntKind.i64.wrap n = n := by unfold IntKind.wrap; simp [IntKind.signed, IntKind.bits]; omega
   have w2 : IntKind.i64.wrap c = c := by unfold IntKind.wrap; simp [IntKind.signed, IntKind.bits]; omega
   let cells : Array Value := (Array.range (c.toNat * sz)).map fun i => (if c.toNat * sz = 0 then (#[] : Array Value) else zv.cells)[i % (if c.toNat * sz = 0 then (#[] : Array Value) else zv.cells).size]!
   have hrun : (Instr.makeSlice t (.int .i64 n) (.int .i64 c)).run P E.w = .ok (.slice (some ⟨E.w.heap.size, 0, none⟩) n.toNat c.toNat) { E.w with heap := E.w.heap.push (.cells cells e) } := by
    have t1 : ¬ (c < 0) := by omega
    have t2 : ¬ (n < 0) := by omega
    have t3 : ¬ (n > c) := by omega
    have t4 : ¬ ((g.bytes : Int) * c > 2 ^ 48) := by omega
    by_cases h0 : c.toNat * sz = 0
    ·simp only [cells, h0, if_true]
     simp [Instr.makeSlice, run_underlying hu, asInt, asIntOf, run_typeInfo E.w hg, w1, w2, t1, t2, t3, t4, run_askRoom, run_sizeOf E.w hg, hgs, h0, newRow]
     exact fun hb => absurd hb (by omega)
    ·simp only [cells, h0, if_false]
     simp [Instr.makeSlice, run_underlying hu, asInt, asIntOf, run_typeInfo E.w hg, w1, w2, t1, t2, t3, t4, run_askRoom, run_sizeOf E.w hg, hgs, h0, newRow, run_zeroValue E.w hg hz]
     exact fun hb => absurd hb (by omega)
   refine ⟨_, _, hrun, ?_⟩
   have hcs : cells.size = c.toNat * sz := by simp [cells]
   have hget : ∀ k, k < c.toNat * sz → cells.getD k undef = zv.cells.getD (k % sz) undef := by
    intro k hk
    have h0 : ¬ (c.toNat * sz = 0) := by omega
    have hm : k % sz < zv.cells.size := by rw [hzc]; exact Nat.mod_lt _ h00
    have hkc : k < cells.size := by rw [hcs]; exact hk
    have e1 : cells.getD k undef = cells[k] := by rw [Array.getD, dif_pos hkc]; rfl
    have e2 : zv.cells.getD (k % sz) undef = zv.cells[k % sz] := by rw [Array.getD, dif_pos hm]; rfl
    rw [e1, e2]
    simp only [cells, Array.getElem_map, Array.getElem_range, h0, if_false, hzc]
    exact getElem!_pos zv.cells (k % sz) hm
   have hA := add_arr hI hal e e hsz (es := List.replicate n.toNat z) (c := cells) (w' := { E.w with heap := E.w.heap.push (.cells cells e) }) (blk := E.w.heap.size) (Grow.alloc _ _) (Nat.le_refl _) (by simp)
    (by rw [hcs, List.length_replicate]; exact Nat.mul_le_mul_right _ (by omega)) (fun i hi => by rw [List.length_replicate] at hi; simp only [List.getD, List.getElem?_replicate, hi, if_true]; exact zk)
    (fun i j hi hj => by
     rw [List.length_replicate] at hi
     have hm : (i + 1) * sz ≤ c.toNat * sz := Nat.mul_le_mul_right _ (by omega)
     rw [Nat.add_mul, Nat.one_mul] at hm
     rw [hget _ (by omega), Nat.mul_comm i sz, Nat.mul_add_mod, Nat.mod_eq_of_lt hj]
     simp only [List.getD, List.getElem?_replicate, hi, if_true]
     exact zr j (by omega)) (cap := c.toNat) (by rw [List.length_replicate]; omega) (by rw [hcs]; exact Nat.le_refl _)
   rw [List.length_replicate] at hA
   by_cases hnc : n = c
   ·rw [if_pos hnc]
    exact hA
   ·rw [if_neg hnc]
    obtain ⟨E', e1, e2, e3, e4, e5⟩ := hA
    refine ⟨E', e1, e2, e3, e4, .own _ _ _ _ ?_⟩
    cases e5 with
    | all _ m _ hn hh =>
     have hm := hn e (List.replicate n.toNat z) true (by rw [e2]; exact (alloc_spec hal _).1)
     rw [List.length_replicate] at hm
     subst hm
     exact hh
  ·simp at h
 ·simp at h

end
end Go.Pu
