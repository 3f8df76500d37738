/- The pure machine, eighth part: cuts and conversions. -/
import Derived.Test.YtkaljlpbmbfpgaaGreatDoorRG
set_option linter.unusedSimpArgs false
namespace Go.Pu

section
variable {P : Program} {E : Env}

theorem bound_rep {x : Option PV} {d : Nat} {n : Int} (h : bound x d = some n) {v : Option Value} (hx : ∀ p, x = some p → ∃ u, v = some u ∧ Rep P E p u) (hn : x = none → v = none) :
  (v = none ∧ n = d) ∨ ∃ k, v = some (.int k n) := by
 unfold bound at h
 split at h
 ·obtain rfl := Option.some.inj h
  exact .inl ⟨hn rfl, rfl⟩
 ·obtain rfl := Option.some.inj h
  obtain ⟨u, h1, h2⟩ := hx _ rfl
  obtain rfl := h2.int_inv
  exact .inr ⟨_, h1⟩
 ·simp at h

theorem run_sliceBound {k : IntKind} {n : Int} {y : Nat} (h0 : 0 ≤ n) (h1 : n ≤ y) (code : BoundsCode) (w : World) : (Instr.sliceBound (.int k n) y code).run P w = .ok n.toNat w := by
 simp [Instr.sliceBound, asIntOf, h0, h1]

theorem run_sliceBounds {isS : Bool} {len cap : Nat} {lo hi : Option Value} {l u : Int} (hlo : (lo = none ∧ l = ((0 : Nat) : Int)) ∨ ∃ k, lo = some (.int k l)) (hhi : (hi = none ∧ u = (len : Int)) ∨ ∃ k, hi = some (.int k u))
  (h0 : 0 ≤ l) (h1 : l ≤ u) (h2 : u ≤ cap) (w : World) : (Instr.sliceBounds isS len cap lo hi none).run P w = .ok (l.toNat, u.toNat, cap) w := by
 have hu : u ≤ (cap : Int) := h2
 have hlu : l ≤ (u.toNat : Int) := by omega
 rcases hlo with ⟨rfl, rfl⟩ | ⟨k, rfl⟩ <;> rcases hhi with ⟨rfl, rfl⟩ | ⟨k', rfl⟩
 ·simp [Instr.sliceBounds]
 ·simp [Instr.sliceBounds, run_sliceBound (P := P) (by omega : 0 ≤ u) hu]
 ·simp only [Instr.sliceBounds, Sem.run_bind, Sem.run_pure, Result.andThen_ok]
  rw [run_sliceBound (P := P) h0 (by simpa using h1)]
  simp
 ·simp only [Instr.sliceBounds, Sem.run_bind, Sem.run_pure, Result.andThen_ok, run_sliceBound (P := P) (by omega : 0 ≤ u) hu]
  rw [run_sliceBound (P := P) h0 hlu]
  simp

theorem run_slice_slice {t e : TypeId} (hu : P.underlying t = some (.slice e)) {g : TypeInfo} (hg : P.info? e = some g) {A : Option Addr} {len cap : Nat} {lo hi : Option Value} {l u : Int}
  (hlo : (lo = none ∧ l = ((0 : Nat) : Int)) ∨ ∃ k, lo = some (.int k l)) (hhi : (hi = none ∧ u = (len : Int)) ∨ ∃ k, hi = some (.int k u)) (h0 : 0 ≤ l) (h1 : l ≤ u) (h2 : u ≤ cap) (w : World) :
  (Instr.sliceAt t (.slice A len cap) lo hi none).run P w = .ok (.slice (if cap = l.toNat then A else A.map (·.add (l.toNat * g.size))) (u.toNat - l.toNat) (cap - l.toNat)) w := by
 have hb := run_sliceBounds (P := P) (isS := true) hlo hhi h0 h1 h2 w
 simp [Instr.sliceAt, Instr.slice, run_underlying hu, hb, run_sizeOf w hg]

theorem slc_cut {b off n : Nat} {t : TypeId} {es : List (List PV)} {l : Bool} (hb : E.h[b]? = some (.arr t es l)) {sz : Nat} (hs : elSize P t = some sz) {A : Option Addr} {cap : Nat} (h : SlcAt P E b off n (.slice A n cap)) (a k : Nat) (hk : a + k ≤ n) :
  SlcAt P E b (off + a) k (.slice (if cap = a then A else A.map (·.add (a * sz))) k (cap - a)) := by
 unfold SlcAt at h ⊢
 rw [hb] at h ⊢
 obtain ⟨h0, sz', A', cap', hs', hv, hn, hh⟩ := h
 rw [hs] at hs'
 obtain rfl := Option.some.inj hs'
 obtain ⟨rfl, _, rfl⟩ : A = A' ∧ n = n ∧ cap = cap' := by simpa using hv
 refine ⟨by omega, sz, _, _, hs, rfl, by omega, ?_⟩
 by_cases hc : cap - a = 0
 ·exact .inl hc
 ·rcases hh with hh | ⟨blk, o, c, T, h1, rfl, h3, h4⟩
  ·omega
  ·refine .inr ⟨blk, o, c, T, h1, ?_, h3, ?_⟩
   ·rw [if_neg (by omega)]
    simp [Addr.add_lit, Nat.add_mul, Nat.add_assoc]
   ·have : off + a + (cap - a) = off + cap := by omega
    rw [this]
    exact h4

theorem sliceRow_run (hI : Inv P E) {t e : TypeId} (hu : P.underlying t = some (.slice e)) {x r : PV} {lo hi : Option PV} (h : sliceRow P e E.h lo hi x = some r) {v : Value} {vlo vhi : Option Value} (hx : Rep P E x v)
  (hlo : ∀ p, lo = some p → ∃ u, vlo = some u ∧ Rep P E p u) (hlo' : lo = none → vlo = none) (hhi : ∀ p, hi = some p → ∃ u, vhi = some u ∧ Rep P E p u) (hhi' : hi = none → vhi = none) (w : World) :
  ∃ u, (Instr.sliceAt t v vlo vhi none).run P w = .ok u w ∧ Rep P E r u := by
 unfold sliceRow at h
 split at h
 ·simp at h
 ·rename_i hel
  obtain ⟨sz, hsz⟩ := Option.ne_none_iff_exists'.1 hel
  obtain ⟨g, hg, hgs, hk, h0⟩ := elSize_spec hsz
  cases x <;> simp only [reduceCtorEq] at h
  case nils =>
   obtain rfl := hx.nils_inv
   cases hl : bound lo 0 with
   | none => simp [hl] at h
   | some l =>
    cases hh : bound hi 0 with
    | none => simp [hl, hh] at h
    | some u =>
     simp only [hl, hh, Option.bind_some] at h
     split at h
     ·rename_i hc
      obtain ⟨rfl, rfl⟩ := hc
      obtain rfl := Option.some.inj h
      refine ⟨_, run_slice_slice hu hg (bound_rep hl hlo hlo') (bound_rep hh hhi hhi') (by omega) (by omega) (by omega) w, ?_⟩
      simpa using Rep.nils
     ·simp at h
  case lst T es =>
   cases hl : bound lo 0 with
   | none => simp [hl] at h
   | some l =>
    cases hh : bound hi es.length with
    | none => simp [hl, hh] at h
    | some u =>
     simp only [hl, hh, Option.bind_some] at h
     split at h
     ·rename_i hc
      obtain ⟨rfl, c1, c2, c3⟩ := hc
      obtain rfl := Option.some.inj h
      obtain ⟨A, cap, rfl, hcap, ⟨_, hA⟩, hq⟩ := content_rep hI (x := .lst T es) rfl hx
      have hlen : ((es.drop l.toNat).take (u.toNat - l.toNat)).length = u.toNat - l.toNat := by simp; omega
      refine ⟨_, run_slice_slice hu hg (bound_rep hl hlo hlo') (bound_rep hh hhi hhi') c1 c2 (by omega) w, ?_⟩
      by_cases hz : u.toNat - l.toNat = 0
      ·rw [hz]
       simp only [List.take_zero]
       refine .lst0 _ _ _ fun e => ?_
       split at e
       ·have := hA e; omega
       ·cases A with
        | none => have := hA rfl; omega
        | some a => cases e
      ·rcases hq with rfl | ⟨t', sz', blk, o, c, T', fz, he, hs', rfl, hb, hle, hks, hr⟩
       ·simp at c3; omega
       ·obtain rfl := Option.some.inj he
        rw [hsz] at hs'
        obtain rfl := Option.some.inj hs'
        have him : E.im blk := by
         cases hx with
         | lst0 => simp at c3; omega
         | lst _ _ _ _ _ _ _ _ _ _ _ him => exact him
        rw [if_neg (by omega)]
        simp only [Option.map_some, Addr.add_lit, hgs]
        have hm : u.toNat * sz ≤ es.length * sz := Nat.mul_le_mul_right _ (by omega)
        have hm2 : u.toNat * sz = l.toNat * sz + (u.toNat - l.toNat) * sz := by rw [← Nat.add_mul]; congr 1; omega
        have key := Rep.lst (P := P) (E := E) T ((es.drop l.toNat).take (u.toNat - l.toNat)) blk (o + l.toNat * sz) (cap - l.toNat) sz c T' fz hsz hb him (by rw [hlen]; omega) (by rw [hlen]; omega) (fun i hi => ?_) (fun i j hi hj => ?_)
        ·rw [hlen] at key
         exact key
        ·rw [hlen] at hi
         rw [getD_drop_take_l _ _ _ _ hi]
         exact hks _ (by omega)
        ·rw [hlen] at hi
         rw [getD_drop_take_l _ _ _ _ hi]
         have := hr (l.toNat + i) j (by omega) hj
         rw [Nat.add_mul, ← Nat.add_assoc] at this
         exact this
     ·simp at h
  case all b =>
   split at h
   ·rename_i T es lv hb
    cases hl : bound lo 0 with
    | none => simp [hl] at h
    | some l =>
     cases hh : bound hi es.length with
     | none => simp [hl, hh] at h
     | some u =>
      simp only [hl, hh, Option.bind_some] at h
      split at h
      ·rename_i hc
       obtain ⟨rfl, c1, c2, c3⟩ := hc
       obtain rfl := Option.some.inj h
       cases hx with
       | all _ n _ hn hS =>
        obtain rfl := hn T es lv hb
        have hS0 := hS
        unfold SlcAt at hS
        rw [hb] at hS
        obtain ⟨_, sz', A, cap, hs', rfl, hcap, _⟩ := hS
        refine ⟨_, run_slice_slice hu hg (bound_rep hl hlo hlo') (bound_rep hh hhi hhi') c1 c2 (by omega) w, .own _ _ _ _ ?_⟩
        have := slc_cut hb hsz hS0 l.toNat (u.toNat - l.toNat) (by omega)
        rw [hgs]
        simpa using this
      ·simp at h
   ·simp at h
  case own b off n =>
   split at h
   ·rename_i T es lv hb
    cases hl : bound lo 0 with
    | none => simp [hl] at h
    | some l =>
     cases hh : bound hi n with
     | none => simp [hl, hh] at h
     | some u =>
      simp only [hl, hh, Option.bind_some] at h
      split at h
      ·rename_i hc
       obtain ⟨rfl, c1, c2, c3⟩ := hc
       obtain rfl := Option.some.inj h
       cases hx with
       | own _ _ _ _ hS =>
        have hS0 := hS
        unfold SlcAt at hS
        rw [hb] at hS
        obtain ⟨_, sz', A, cap, hs', rfl, hcap, _⟩ := hS
        refine ⟨_, run_slice_slice hu hg (bound_rep hl hlo hlo') (bound_rep hh hhi hhi') c1 c2 (by omega) w, .own _ _ _ _ ?_⟩
        have := slc_cut hb hsz hS0 l.toNat (u.toNat - l.toNat) (by omega)
        rw [hgs]
        exact this
      ·simp at h
   ·simp at h

theorem run_slice_zero {t e : TypeId} (hu : P.underlying t = some (.slice e)) {g : TypeInfo} (hg : P.info? e = some g) {A : Option Addr} {len cap : Nat} (k k' : IntKind) (w : World) :
  (Instr.sliceAt t (.slice A len cap) none (some (.int k 0)) (some (.int k' 0))).run P w = .ok (.slice A 0 0) w := by
 have h1 : (Instr.sliceBounds true len cap none (some (.int k 0)) (some (.int k' 0))).run P w = .ok (0, 0, 0) w := by
  simp [Instr.sliceBounds, run_sliceBound (P := P) (show (0 : Int) ≤ 0 by omega) (show (0 : Int) ≤ (cap : Nat) by omega), run_sliceBound (P := P) (show (0 : Int) ≤ 0 by omega) (show (0 : Int) ≤ ((0 : Nat) : Int) by omega)]
 simp [Instr.sliceAt, Instr.slice, run_underlying hu, h1, run_sizeOf w hg]

theorem sliceZero_run (hI : Inv P E) {t : TypeId} {x r : PV} {lo hi mx : Option PV} (h : sliceZero P t E.h x lo hi mx = some r) {v : Value} {vlo vhi vmx : Option Value} (hx : Rep P E x v)
  (hlo' : lo = none → vlo = none) (hhi : ∀ p, hi = some p → ∃ u, vhi = some u ∧ Rep P E p u) (hmx : ∀ p, mx = some p → ∃ u, vmx = some u ∧ Rep P E p u) (w : World) :
  ∃ u, (Instr.sliceAt t v vlo vhi vmx).run P w = .ok u w ∧ Rep P E r u := by
 unfold sliceZero at h
 split at h
 ·rename_i e k1 k2 hu
  obtain rfl := hlo' rfl
  obtain ⟨u1, rfl, r1⟩ := hhi _ rfl
  obtain ⟨u2, rfl, r2⟩ := hmx _ rfl
  cases r1
  cases r2
  split at h
  ·cases h
  ·rename_i hel
   obtain ⟨sz, hsz⟩ := Option.ne_none_iff_exists'.1 hel
   obtain ⟨g, hg, hgs, hk, h0⟩ := elSize_spec hsz
   cases hc : content E.h x with
   | none => simp [hc] at h
   | some c =>
    simp only [hc, Option.bind_some] at h
    split at h
    ·cases h
     obtain ⟨A, cap, rfl, _⟩ := content_rep hI (T := c.1) (es := c.2) hc hx
     exact ⟨_, run_slice_zero hu hg _ _ w, .zcap _ A⟩
    ·cases h
 ·cases h

theorem sliceOp_run (hI : Inv P E) {t : TypeId} {x r : PV} {lo hi mx : Option PV} (h : sliceOp P t E.h x lo hi mx = some r) {v : Value} {vlo vhi vmx : Option Value} (hx : Rep P E x v)
  (hlo : ∀ p, lo = some p → ∃ u, vlo = some u ∧ Rep P E p u) (hlo' : lo = none → vlo = none) (hhi : ∀ p, hi = some p → ∃ u, vhi = some u ∧ Rep P E p u) (hhi' : hi = none → vhi = none) (hmx' : ∀ p, mx = some p → ∃ u, vmx = some u ∧ Rep P E p u) (hmx : mx = none → vmx = none) (w : World) :
  ∃ u, (Instr.sliceAt t v vlo vhi vmx).run P w = .ok u w ∧ Rep P E r u := by
 unfold sliceOp at h
 split at h
 ·exact sliceZero_run hI h hx hlo' hhi hmx' w
 ·rename_i hm
  obtain rfl := hmx (by simpa using hm)
  split at h
  ·rename_i hu
   split at h
   ·rename_i s
    obtain rfl := hx.str_inv
    unfold sliceStr at h
    cases hl : bound lo 0 with
    | none => simp [hl] at h
    | some l =>
     cases hh : bound hi s.size with
     | none => simp [hl, hh] at h
     | some u =>
      simp only [hl, hh, Option.bind_some] at h
      split at h
      ·rename_i hc
       obtain rfl := Option.some.inj h
       have hb := run_sliceBounds (P := P) (isS := false) (len := s.size) (cap := s.size) (bound_rep hl hlo hlo') (bound_rep hh hhi hhi') hc.1 hc.2.1 hc.2.2 w
       exact ⟨_, by simp [Instr.sliceAt, Instr.slice, run_underlying hu, hb], .str _⟩
      ·simp at h
   ·simp at h
  ·rename_i e hu
   exact sliceRow_run hI hu h hx hlo hlo' hhi hhi' w
  ·simp at h

theorem kdOf_int {t : TypeId} {k : IntKind} (h : kdOf P t = .int k) : P.underlying t = some (.int k) := by
 unfold kdOf at h
 split at h <;> simp_all

theorem kdOf_str {t : TypeId} (h : kdOf P t = .str) : P.underlying t = some .string := by
 unfold kdOf at h
 split at h <;> simp_all

theorem kdOf_sl {t e : TypeId} (h : kdOf P t = .sl e) : P.underlying t = some (.slice e) := by
 unfold kdOf at h
 split at h <;> simp_all

theorem kds_int {t : TypeId} {k : IntKind} (h : kdOf P t = .int k) : kds P t = [.int k] := by
 have hu := kdOf_int h
 unfold kds
 show (match P.underlying t with
  | some (.struct fs) => fs.toList.flatMap fun (f : Field) => kdsOf P 5 f.type
  | some (.array len e) => (List.replicate len (kdsOf P 5 e)).flatten
  | _ => [kdOf P t]) = _
 rw [hu]
 simp [h]

theorem u8_cell {x : PV} (h : cellOK (.int .u8) x = true) : x = .int .u8 x.toI := by
 cases x <;> simp [cellOK] at h
 rw [← h]
 rfl

theorem strOf_eq (es : List (List PV)) : strOf es = strOfNums (es.map fun e => (e.getD 0 .top).toI) := by
 simp [strOf, strOfNums, List.map_map]

theorem convertOp_run (hI : Inv P E) {s d : TypeId} {x r : PV} (h : convertOp P s d E.h x = some r) {v : Value} (hx : Rep P E x v) :
  ∃ u, (Go.convert s d v).run P E.w = .ok u E.w ∧ Rep P E r u := by
 unfold convertOp at h
 split at h
 ·obtain rfl := hx.int_inv
  split at h
  ·rename_i k1 h1 h2
   obtain rfl := Option.some.inj h
   exact ⟨_, by simp [Go.convert, run_underlying (kdOf_int h1), run_underlying (kdOf_int h2), Conv.intToInt], .int _ _⟩
  ·simp at h
 ·obtain rfl := hx.str_inv
  split at h
  ·rename_i h1 h2
   obtain rfl := Option.some.inj h
   exact ⟨_, by simp [Go.convert, run_underlying (kdOf_str h1), run_underlying (kdOf_str h2)], .str _⟩
  ·simp at h
 ·split at h
  ·rename_i e h1 h2
   split at h
   ·rename_i hk
    obtain ⟨hk, hel⟩ := hk
    cases hc : content E.h x with
    | none => simp [hc] at h
    | some c =>
     obtain ⟨T, es⟩ := c
     simp only [hc, Option.bind_some] at h
     split at h
     ·rename_i hT
      obtain rfl := Option.some.inj h
      obtain ⟨A, cap, rfl, hcap, _, hq⟩ := content_rep hI hc hx
      have hs := kdOf_sl h1
      have hd := kdOf_str h2
      have he := kdOf_int hk
      rcases hq with rfl | ⟨t, sz, blk, o, c, T', fz, rfl, hsz, rfl, hb, hle, hks, hr⟩
      ·have e0 : strOf [] = ByteArray.empty := rfl
       rw [e0]
       cases A with
       | none => exact ⟨_, run_convert_bytes_nil E.w s e hs he 0 cap d hd, .str _⟩
       | some ad =>
        refine ⟨_, ?_, .str _⟩
        rw [run_convert_bytes_string E.w s d e _ _ cap hs he hd]
        simp [Conv.bytesToString, loadCells, loadCellsFrom]
      ·have hte : t = e := by rcases hT with hT | hT <;> simp at hT; exact hT
       subst hte
       rw [hel] at hsz
       obtain rfl := Option.some.inj hsz
       refine ⟨_, ?_, .str _⟩
       rw [strOf_eq]
       refine run_convert_bytes_arg E.w s t hs he blk o es.length cap _ (by simp) (fun i hi => ?_) d hd
       rw [cell_of hb (by omega)]
       have h3 := hks i hi
       rw [kds_int hk] at h3
       have h4 := (cellsOK_getD h3).2 0 (.int .u8) rfl
       have h5 := hr i 0 hi (by omega)
       rw [u8_cell h4] at h5
       have h6 := h5.int_inv
       simp only [Nat.mul_one, Nat.add_zero] at h6
       rw [h6]
       simp [List.getD, hi]
     ·simp at h
   ·simp at h
  ·simp at h

end
end Go.Pu
