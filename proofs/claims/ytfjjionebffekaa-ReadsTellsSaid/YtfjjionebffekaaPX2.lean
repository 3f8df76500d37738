/- What is found, what is read, and whether it is so. -/
import Derived.Test.YtfjjionebffekaaPX1
import Derived.Test.YtfjjionebffekaaSE
import Derived.SizedLaws
set_option linter.unusedVariables false
set_option linter.unusedSimpArgs false
namespace Go.Proofs.Ytfjjionebffekaa
open Go Go.Pu

theorem wrap_u64 {n : Int} (h1 : 0 ≤ n) (h2 : n < 18446744073709551616) : IntKind.u64.wrap n = n := by
  rw [IntKind.wrap_u64]; omega

theorem mid_eq {i j : Nat} (hi : i < 4611686018427387904) (hj : j < 4611686018427387904) :
    w64 (Int.fdiv (IntKind.wrap IntKind.u64 (w64 ((i : Int) + (j : Int)))) 2) = (((i + j) / 2 : Nat) : Int) := by
  have e1 : w64 ((i : Int) + (j : Int)) = (i : Int) + (j : Int) := w64_eq (by omega) (by omega)
  rw [e1, wrap_u64 (by omega) (by omega)]
  have : Int.fdiv ((i : Int) + (j : Int)) 2 = (((i + j) / 2 : Nat) : Int) := by
    rw [Int.fdiv_eq_ediv_of_nonneg _ (by decide)]; omega
  rw [this, w64_eq (by omega) (by omega)]

/-- where a key is, or would be -/
structure At (l : List Rec) (k : Val) (p : Nat) : Prop where
  le : p ≤ l.length
  lo : ∀ i (h : i < l.length), i < p → cmpV (l[i]).key k < 0
  hi : ∀ i (h : i < l.length), p ≤ i → 0 ≤ cmpV (l[i]).key k

theorem At.uniq {l : List Rec} {k : Val} {p q : Nat} (h : At l k p) (g : At l k q) : p = q := by
  rcases Nat.lt_trichotomy p q with h1 | h1 | h1
  · have a := h.hi p (by have := g.le; omega) (Nat.le_refl _)
    have b := g.lo p (by have := g.le; omega) h1
    omega
  · exact h1
  · have a := g.hi q (by have := h.le; omega) (Nat.le_refl _)
    have b := h.lo q (by have := h.le; omega) h1
    omega

theorem find_loop {l : List Rec} (hl : okL l) (hm : mayL l = true) (k : Val) : ∀ (d i j : Nat), j - i = d → i ≤ j → j ≤ l.length →
    (∀ q (h : q < l.length), q < i → cmpV (l[q]).key k < 0) → (∀ q (h : q < l.length), j ≤ q → 0 ≤ cmpV (l[q]).key k) →
    ∃ p, At l k p ∧ lres rd_rel_find_92_3 [.l (l.map Rec.e), .i l.length, .i (i : Nat), .i (j : Nat), .i k.k, .i k.n, .s (bs k.s)] = some (0, [.l (l.map Rec.e), .i l.length, .i (p : Nat), .i k.k, .i k.n, .s (bs k.s)]) := by
  have h0 := hl.1
  intro d
  induction d using Nat.strongRecOn with
  | ind d ih =>
    intro i j hdd hij hj h1 h2
    by_cases he : i = j
    · subst he
      refine ⟨i, ⟨hj, h1, h2⟩, lres_stop ?_⟩
      simp [rd_rel_find_92_3]
    · have hlt : i < j := by omega
      have hmid := mid_eq (i := i) (j := j) (by omega) (by omega)
      generalize hh : (i + j) / 2 = m at hmid
      have hm1 : m < l.length := by omega
      have hr := mayL_row hm hm1
      have hg := hd_re hr
      have hc := value_Compare_res (hd l[m].row) k
      have hw := w64_succ (i := m) (by omega)
      by_cases hcm : cmpV (hd l[m].row) k < 0
      · obtain ⟨p, p1, p2⟩ := ih (j - (m + 1)) (by omega) (m + 1) j rfl (by omega) hj (fun q hq hqi => by
          by_cases hqm : q = m
          · subst hqm; exact hcm
          · exact cV.lt_trans (mayL_lt hm hm1 (show q < m by omega)) hcm) h2
        refine ⟨p, p1, ?_⟩
        rw [← p2]
        refine lres_next ?_
        simp [rd_rel_find_92_3, hmid, hm1, Rec.e, hr, hg, Val.e, hc, hcm, hlt, hw]
      · obtain ⟨p, p1, p2⟩ := ih (m - i) (by omega) i m rfl (by omega) (by omega) h1 (fun q hq hqi => by
          by_cases hqm : q = m
          · subst hqm; show 0 ≤ cmpV (hd l[q].row) k; omega
          · have := mayL_lt hm hq (show m < q by omega)
            have a := cV.anti (l[m]).key (l[q]).key
            have hcm' : 0 ≤ cmpV (l[m]).key k := by show 0 ≤ cmpV (hd l[m].row) k; omega
            have b := cV.anti (l[m]).key k
            have c := cV.anti (l[q]).key k
            by_cases h3 : cmpV (l[q]).key k < 0
            · have := cV.lt_trans this h3
              omega
            · omega)
        refine ⟨p, p1, ?_⟩
        rw [← p2]
        refine lres_next ?_
        simp [rd_rel_find_92_3, hmid, hm1, Rec.e, hr, hg, Val.e, hc, hcm, hlt]

theorem rel_find_res (s : List UInt8) {l : List Rec} (hl : okL l) (hm : mayL l = true) (k : Val) :
    ∃ p, At l k p ∧ (m_rel_find [.s (bs s), .l (l.map Rec.e), .i k.k, .i k.n, .s (bs k.s)]).res = some (0, [.i (p : Nat), .b (decide (∃ h : p < l.length, (l[p]).key = k))]) := by
  obtain ⟨p, p1, p2⟩ := find_loop hl hm k l.length 0 l.length (by omega) (by omega) (Nat.le_refl _) (fun q _ h => by omega) (fun q h h2 => by omega)
  refine ⟨p, p1, ?_⟩
  simp only [Int.natCast_zero] at p2
  by_cases hp : p < l.length
  · have hr := mayL_row hm hp
    have hg := hd_re hr
    have hc := value_Compare_res (hd l[p].row) k
    have hz := cV.zero (hd l[p].row) k
    by_cases he : hd l[p].row = k
    · have hz' := hz.2 he
      rw [decide_eq_true (show ∃ h : p < l.length, (l[p]).key = k from ⟨hp, he⟩)]
      simp [m_rel_find, p2, hp, Rec.e, hr, hg, Val.e, hc, hz']
    · have hz' : ¬ cmpV (hd l[p].row) k = 0 := fun e => he (hz.1 e)
      rw [decide_eq_false (show ¬ ∃ h : p < l.length, (l[p]).key = k from fun ⟨_, e⟩ => he e)]
      simp [m_rel_find, p2, hp, Rec.e, hr, hg, Val.e, hc, hz']
  · simp [m_rel_find, p2, hp]

/-! by a key -/

def getL (l : List Rec) (k : Val) : Option Rec := if mayL l = true then l.find? (fun c => decide (c.key = k)) else none

theorem find_at {l : List Rec} (hm : mayL l = true) {k : Val} {p : Nat} (h : At l k p) : l.find? (fun c => decide (c.key = k)) = if h : ∃ h : p < l.length, (l[p]).key = k then some (l[p]'h.1) else none := by
  split
  · rename_i he
    obtain ⟨hp, he⟩ := he
    rw [List.find?_eq_some_iff_getElem]
    refine ⟨by simpa using he, p, hp, rfl, fun j hj => ?_⟩
    have := h.lo j (by omega) hj
    simp only [Bool.not_eq_true', decide_eq_false_iff_not]
    intro e
    rw [e, cV.self] at this; omega
  · rename_i he
    rw [List.find?_eq_none]
    intro c hc
    obtain ⟨j, hj, rfl⟩ := List.mem_iff_getElem.1 hc
    simp only [decide_eq_true_eq]
    intro e
    apply he
    rcases Nat.lt_or_ge j p with h1 | h1
    · have := h.lo j hj h1
      rw [e, cV.self] at this; omega
    · by_cases h2 : j = p
      · subst h2; exact ⟨hj, e⟩
      · have hp : p < l.length := by omega
        have a := mayL_lt hm hj (show p < j by omega)
        have b := h.hi p hp (Nat.le_refl _)
        rw [e] at a
        omega

def tidO (o : Option Rec) : Int := match o with | some c => c.tid | none => 0
def rowO (o : Option Rec) : List Val := match o with | some c => c.row | none => []

theorem okR_bytes {r : List Val} (h : okR r) : (0 + (re r).length) * 32 ≤ 140737488355328 := by
  have := h.1
  simp only [re, List.length_map]; omega

theorem rel_Get_res (s : List UInt8) {l : List Rec} (hl : okL l) (k : Val) :
    (m_rel_Get [.s (bs s), .l (l.map Rec.e), .i k.k, .i k.n, .s (bs k.s)]).res = some (0, [.i (tidO (getL l k)), .b (getL l k).isSome, .l (re (rowO (getL l k)))]) := by
  have hM := rel_May_res s l hl
  by_cases hm : mayL l = true
  · obtain ⟨p, p1, p2⟩ := rel_find_res s hl hm k
    have hf := find_at hm p1
    by_cases he : ∃ h : p < l.length, (l[p]).key = k
    · obtain ⟨hp, hk⟩ := he
      rw [dif_pos ⟨hp, hk⟩] at hf
      have ho := okR_bytes (okL_at hl hp).1
      have ho' : (re (l[p]).row).length * 32 ≤ 140737488355328 := by omega
      simp [m_rel_Get, hM, hm, p2, hp, hk, getL, hf, tidO, rowO, Rec.e, ho']
    · rw [dif_neg he] at hf
      have he' : decide (∃ h : p < l.length, (l[p]).key = k) = false := decide_eq_false he
      rw [he'] at p2
      simp [m_rel_Get, hM, hm, p2, getL, hf, tidO, rowO, re]
  · have hm' : mayL l = false := by simpa using hm
    simp [m_rel_Get, hM, hm', getL, tidO, rowO, re]

theorem val_ext {v w : Val} : (v.k = w.k ∧ v.n = w.n ∧ v.s = w.s) ↔ v = w := by
  obtain ⟨a, b, c⟩ := v
  obtain ⟨a', b', c'⟩ := w
  simp

theorem R16_Get_res (s : List UInt8) {l : List Rec} (hl : okL l) (k : Val) :
    (m_R16_Get [.s (bs s), .l (l.map Rec.e), .i k.k, .i k.n, .s (bs k.s)]).res = some (0, [.l (re (rowO (getL l k))), .i (tidO (getL l k)), .b (getL l k).isSome]) := by
  have h0 := hl.1
  have hM := R16_May_res s l hl
  by_cases hm : mayL l = true
  · have h := loop_ix l.length (rd := rd_R16_Get_32_2) (fun i => [.i (i : Nat), .s (bs s), .l (l.map Rec.e), .i k.k, .i k.n, .s (bs k.s), .i 0]) (fun i => !decide ((l.getD i default).key = k)) 0 1
      (fun i => [.b true, .l (re (l.getD i default).row), .i (l.getD i default).tid]) [.i 0] (by simp [rd_R16_Get_32_2]) (by
      intro i hi _
      have hr := mayL_row hm hi
      have hg := hd_re hr
      have hv := val_ext (v := hd l[i].row) (w := k)
      by_cases he : hd l[i].row = k
      · rw [he] at hg
        simp [rd_R16_Get_32_2, hi, hM, hm, Rec.e, hr, hg, Val.e, he, List.getD, Rec.key]
      · have hne := fun h => he (hv.1 h)
        simp [rd_R16_Get_32_2, hi, hM, hm, Rec.e, hr, hg, Val.e, he, List.getD, Rec.key, w64_succ (i := i) (by omega)]
        exact fun a b c => hne ⟨a, b, c⟩)
    simp only [Int.natCast_zero] at h
    rcases h with ⟨h1, h2⟩ | ⟨i, hi, h1, h3, h2⟩
    · have hf : l.find? (fun c => decide (c.key = k)) = none := by
        rw [List.find?_eq_none]
        intro c hc
        obtain ⟨j, hj, rfl⟩ := List.mem_iff_getElem.1 hc
        have := h1 j hj
        simpa [List.getD, hj] using this
      simp [m_R16_Get, h2, getL, hm, hf, tidO, rowO, re]
    · have hf : l.find? (fun c => decide (c.key = k)) = some l[i] := by
        rw [List.find?_eq_some_iff_getElem]
        refine ⟨by simpa [List.getD, hi] using h1, i, hi, rfl, fun j hj => ?_⟩
        have := h3 j hj
        have hj2 : j < l.length := by omega
        simpa [List.getD, hj2] using this
      simp [m_R16_Get, h2, getL, hm, hf, tidO, rowO, List.getD, hi]
  · have hm' : mayL l = false := by simpa using hm
    have : lres rd_R16_Get_32_2 [.i 0, .s (bs s), .l (l.map Rec.e), .i k.k, .i k.n, .s (bs k.s), .i 0] = some (1, [.i 0]) := by
      refine lres_stop ?_
      by_cases h : 0 < l.length
      · simp [rd_R16_Get_32_2, h, hM, hm']
      · simp [rd_R16_Get_32_2, h]
    simp [m_R16_Get, this, getL, hm', tidO, rowO, re]

end Go.Proofs.Ytfjjionebffekaa

set_option linter.unusedVariables false
set_option linter.unusedSimpArgs false
namespace Go.Proofs.Ytfjjionebffekaa
open Go Go.Pu

theorem take_succ {α : Type} {l : List α} {i : Nat} (h : i < l.length) : l.take (i + 1) = l.take i ++ [l[i]] := by
  rw [List.take_add_one, List.getElem?_eq_getElem h]; rfl

theorem okL_sub {l m : List Rec} (h : okL l) (hs : m.Sublist l) : okL m := ⟨Nat.le_trans hs.length_le h.1, fun c hc => h.2 c (hs.subset hc)⟩

theorem rel_some_res {l : List Rec} (hl : okL l) : (m_rel_some [.l (l.map Rec.e)]).res = some (0, [.l (l.map Rec.e)]) := by
  have h0 := hl.1
  have h := loop_acc (rd := rd_rel_some_69_3) l.length (fun i => [.l (l.map Rec.e), .i l.length, .i (i : Nat), .l ((l.take i).map Rec.e)]) (some (0, [.l (l.map Rec.e)]))
    (lres_stop (by simp [rd_rel_some_69_3])) (by
    intro i hi
    have ho := okR_bytes (okL_at hl hi).1
    have ho' : (re (l[i]).row).length * 32 ≤ 140737488355328 := by omega
    have hb : ((l.take i).length + 1) * 32 ≤ 140737488355328 := by rw [List.length_take]; omega
    rw [take_succ hi]
    generalize l.take i = t at hb ⊢
    simp [rd_rel_some_69_3, hi, Rec.e, ho', hb, w64_succ (i := i) (by omega)])
  simp only [Int.natCast_zero, List.take_zero, List.map_nil] at h
  simp [m_rel_some, h]

/-- is a record's key between two? -/
def btw (a b : Val) (c : Rec) : Bool := decide (0 ≤ cmpV c.key a) && decide (cmpV c.key b < 0)
def scanL (l : List Rec) (a b : Val) : List Rec := if mayL l = true then l.filter (btw a b) else []

theorem filter_mid {α : Type} (q : α → Bool) : ∀ (l : List α) (a b : Nat), a ≤ b → b ≤ l.length → (∀ i (h : i < l.length), q l[i] = (decide (a ≤ i) && decide (i < b))) → l.filter q = (l.drop a).take (b - a)
  | [], a, b, h1, h2, h => by simp at h2; subst h2; simp
  | x :: l, 0, 0, _, _, h => by
    simp only [List.drop_zero, Nat.sub_zero, List.take_zero, List.filter_eq_nil_iff]
    intro y hy
    obtain ⟨j, hj, rfl⟩ := List.mem_iff_getElem.1 hy
    rw [h j hj]; simp
  | x :: l, 0, b + 1, _, h2, h => by
    have h0 := h 0 (by simp)
    simp only [List.getElem_cons_zero, Nat.zero_le, decide_true, Bool.true_and, Nat.zero_lt_succ] at h0
    have ih := filter_mid q l 0 b (Nat.zero_le _) (by simpa using h2) fun i hi => by
      have := h (i + 1) (by simpa using hi)
      simp only [List.getElem_cons_succ] at this
      rw [this]; simp
    simp only [List.filter_cons, h0, if_true, List.drop_zero, Nat.sub_zero, List.take_succ_cons] at ih ⊢
    rw [ih]
  | x :: l, a + 1, 0, h1, _, _ => by omega
  | x :: l, a + 1, b + 1, h1, h2, h => by
    have h0 := h 0 (by simp)
    simp only [List.getElem_cons_zero] at h0
    have ih := filter_mid q l a b (by omega) (by simpa using h2) fun i hi => by
      have := h (i + 1) (by simpa using hi)
      simp only [List.getElem_cons_succ] at this
      rw [this]; simp
    have h0' : q x = false := by rw [h0]; simp
    simp only [List.filter_cons, h0', Bool.false_eq_true, if_false, List.drop_succ_cons]
    rw [ih]; congr 1; omega

theorem At.btw {l : List Rec} {a b : Val} {p q : Nat} (h : At l a p) (g : At l b q) {i : Nat} (hi : i < l.length) : btw a b l[i] = (decide (p ≤ i) && decide (i < q)) := by
  have h1 := h.lo i hi
  have h2 := h.hi i hi
  have g1 := g.lo i hi
  have g2 := g.hi i hi
  unfold Go.Proofs.Ytfjjionebffekaa.btw
  congr 1
  · by_cases e : p ≤ i
    · simp [e, h2 e]
    · have := h1 (by omega)
      simp [e]; omega
  · by_cases e : i < q
    · simp [e, g1 e]
    · have := g2 (by omega)
      simp [e]; omega

theorem At.mono {l : List Rec} {a b : Val} {p q : Nat} (h : At l a p) (g : At l b q) (hab : cmpV a b < 0) : p ≤ q := by
  by_cases e : p ≤ q
  · exact e
  · exfalso
    have hq : q < l.length := by have := h.le; omega
    have h1 := h.lo q hq (by omega)
    have g1 := g.hi q hq (Nat.le_refl _)
    have := cV.lt_trans h1 hab
    omega

theorem rel_Scan_res (s : List UInt8) {l : List Rec} (hl : okL l) (a b : Val) :
    (m_rel_Scan [.s (bs s), .l (l.map Rec.e), .i a.k, .i a.n, .s (bs a.s), .i b.k, .i b.n, .s (bs b.s)]).res = some (0, [.l ((scanL l a b).map Rec.e)]) := by
  have hM := rel_May_res s l hl
  have hc := value_Compare_res a b
  by_cases hm : mayL l = true
  · by_cases hab : cmpV a b < 0
    · obtain ⟨p, p1, p2⟩ := rel_find_res s hl hm a
      obtain ⟨q, q1, q2⟩ := rel_find_res s hl hm b
      have hpq := p1.mono q1 hab
      have hf := filter_mid (btw a b) l p q hpq q1.le fun i hi => p1.btw q1 hi
      have hsub : okL ((l.drop p).take (q - p)) := okL_sub hl ((List.take_sublist _ _).trans (List.drop_sublist _ _))
      have hs := rel_some_res hsub
      have hab' : ¬ 0 ≤ cmpV a b := by omega
      have h3 : (p : Int) ≤ (q : Int) := by omega
      have h4 := q1.le
      simp only [List.map_take, List.map_drop] at hs
      simp [m_rel_Scan, hM, hm, hc, hab', p2, q2, hpq, h4, hs, scanL, hf]
    · have hab' : 0 ≤ cmpV a b := by omega
      have hn : l.filter (btw a b) = [] := by
        rw [List.filter_eq_nil_iff]
        intro c _ hb
        simp only [btw, Bool.and_eq_true, decide_eq_true_eq] at hb
        have h1 := cV.anti c.key a
        have h2 := cV.lt_of_le_of_lt (show cmpV a c.key ≤ 0 by omega) hb.2
        omega
      simp [m_rel_Scan, hM, hm, hc, hab', scanL, hn]
  · have hm' : mayL l = false := by simpa using hm
    simp [m_rel_Scan, hM, hm', scanL]

theorem R16_Scan_res (s : List UInt8) {l : List Rec} (hl : okL l) (a b : Val) :
    (m_R16_Scan [.s (bs s), .l (l.map Rec.e), .i a.k, .i a.n, .s (bs a.s), .i b.k, .i b.n, .s (bs b.s)]).res = some (0, [.l ((scanL l a b).map Rec.e)]) := by
  have h0 := hl.1
  have hM := R16_May_res s l hl
  by_cases hm : mayL l = true
  · have h := loop_acc (rd := rd_R16_Scan_44_3) l.length (fun i => [.i (i : Nat), .s (bs s), .l (l.map Rec.e), .i a.k, .i a.n, .s (bs a.s), .i b.k, .i b.n, .s (bs b.s), .l (((l.take i).filter (btw a b)).map Rec.e)]) (some (0, [.l ((l.filter (btw a b)).map Rec.e)]))
      (lres_stop (by simp [rd_R16_Scan_44_3])) (by
      intro i hi
      have hr := mayL_row hm hi
      have hg := hd_re hr
      have c1 := R01_Compare_res (hd l[i].row) a
      have c2 := R01_Compare_res (hd l[i].row) b
      have hfl : (((l.take i).filter (btw a b)).length + 1) * 32 ≤ 140737488355328 := by
        have := List.length_filter_le (btw a b) (l.take i)
        simp only [List.length_take] at this
        omega
      rw [take_succ hi, List.filter_append, List.map_append]
      generalize (l.take i).filter (btw a b) = t at hfl ⊢
      by_cases h1 : 0 ≤ cmpV (hd l[i].row) a
      · by_cases h2 : cmpV (hd l[i].row) b < 0
        · simp [rd_R16_Scan_44_3, hi, hM, hm, Rec.e, hr, hg, Val.e, c1, c2, h1, h2, hfl, w64_succ (i := i) (by omega), btw, Rec.key] 
        · simp [rd_R16_Scan_44_3, hi, hM, hm, Rec.e, hr, hg, Val.e, c1, c2, h1, h2, hfl, w64_succ (i := i) (by omega), btw, Rec.key]
      · simp [rd_R16_Scan_44_3, hi, hM, hm, Rec.e, hr, hg, Val.e, c1, c2, h1, hfl, w64_succ (i := i) (by omega), btw, Rec.key])
    simp only [Int.natCast_zero, List.take_zero, List.filter_nil, List.map_nil] at h
    simp [m_R16_Scan, h, scanL, hm]
  · have hm' : mayL l = false := by simpa using hm
    have : lres rd_R16_Scan_44_3 [.i 0, .s (bs s), .l (l.map Rec.e), .i a.k, .i a.n, .s (bs a.s), .i b.k, .i b.n, .s (bs b.s), .l []] = some (0, [.l []]) := by
      refine lres_stop ?_
      by_cases h : 0 < l.length
      · simp [rd_R16_Scan_44_3, h, hM, hm']
      · simp [rd_R16_Scan_44_3, h]
    simp [m_R16_Scan, this, scanL, hm']

end Go.Proofs.Ytfjjionebffekaa

set_option linter.unusedVariables false
set_option linter.unusedSimpArgs false
namespace Go.Proofs.Ytfjjionebffekaa
open Go Go.Pu

def okRs (l : List Rel) : Prop := l.length ≤ 4398046511104 ∧ ∀ c ∈ l, c.ok ∧ c.recs.length ≤ 60

theorem emp_bs : ({ data := #[] } : ByteArray) = bs [] := rfl

theorem el_at {α : Type} (f : α → List PV) {l : List α} {i : Nat} (h : i < l.length) : el (l.map f) i = f l[i] := el_map f l h

theorem find_first {α : Type} {l : List α} {q : α → Bool} {i : Nat} (h : i < l.length) (h1 : (!q l[i]) = false) (h2 : ∀ j (h : j < i), (!q l[j]) = true) : l.find? q = some l[i] := by
  rw [List.find?_eq_some_iff_getElem]
  exact ⟨by simpa using h1, i, h, rfl, fun j hj => h2 j hj⟩

theorem find_nil {α : Type} {l : List α} {q : α → Bool} (h : l.all (fun x => !q x) = true) : l.find? q = none := by
  rw [List.find?_eq_none]
  intro x hx
  have := List.all_eq_true.1 h x hx
  simpa using this

/-! a table, by its name -/

def lookR (l : List Rel) (t : List UInt8) : Rel := match l.find? (fun r => decide (r.name = t)) with | some r => r | none => ⟨[], []⟩

theorem lookR_ok {l : List Rel} (h : okRs l) (t : List UInt8) : okL (lookR l t).recs := by
  unfold lookR
  split
  · rename_i r hr
    exact (h.2 r (List.mem_of_find?_eq_some hr)).1.2
  · exact ⟨by simp, fun c hc => by cases hc⟩

theorem lookR_few {l : List Rel} (h : okRs l) (t : List UInt8) : (lookR l t).recs.length ≤ 60 := by
  unfold lookR
  split
  · rename_i r hr
    exact (h.2 r (List.mem_of_find?_eq_some hr)).2
  · simp

theorem reads_Look_res {l : List Rel} (h0 : l.length ≤ 4398046511104) (t : List UInt8) : (m_reads_Look [.l (l.map Rel.e), .s (bs t)]).res = some (0, [.s (bs (lookR l t).name), .l ((lookR l t).recs.map Rec.e)]) := by
  have hl := loop_all l (rd := rd_reads_Look_75_2) (fun i => [.l (l.map Rel.e), .i l.length, .i (i : Nat), .s (bs t)]) (fun r => !decide (r.name = t)) 0 1 (fun i => [.i (i : Nat), .s (bs t)]) [.s (bs t)] (by simp [rd_reads_Look_75_2]) (by
    intro i h
    by_cases hm : l[i].name = t <;> simp [rd_reads_Look_75_2, el_at _ h, h, w64_succ (i := i) (by omega), Rel.e, hm])
  simp only [Int.natCast_zero] at hl
  rcases hl with ⟨h1, h2⟩ | ⟨h1, i, h, h3, h4, h2⟩
  · simp [m_reads_Look, h2, lookR, find_nil h1, emp_bs]
  · have hi : ¬ (i : Int) < 0 := by omega
    simp [m_reads_Look, h2, lookR, find_first (q := fun r : Rel => decide (r.name = t)) h h3 h4, hi, h, el_at _ h, Rel.e]

/-! by a key -/

def oneV (l : List Rel) (t : List UInt8) (k : Val) : Read := ⟨t, k, tidO (getL (lookR l t).recs k)⟩

theorem reads_One_res {l : List Rel} (hl : okRs l) (t : List UInt8) (k : Val) : (m_reads_One [.l (l.map Rel.e), .s (bs t), .i k.k, .i k.n, .s (bs k.s)]).res =
    some (0, [.s (bs t), .i k.k, .i k.n, .s (bs k.s), .i (oneV l t k).tid]) := by
  simp [m_reads_One, reads_Look_res hl.1, rel_Get_res _ (lookR_ok hl t) k, oneV]

/-! between two keys -/

def toRead (t : List UInt8) (c : Rec) : Read := ⟨t, c.key, c.tid⟩
def btwV (l : List Rel) (t : List UInt8) (a b : Val) : List Read := (scanL (lookR l t).recs a b).map (toRead t)

theorem scanL_sub (l : List Rec) (a b : Val) : (scanL l a b).Sublist l := by
  unfold scanL
  split
  · exact List.filter_sublist
  · exact List.nil_sublist _

theorem scanL_row {l : List Rec} {a b : Val} {c : Rec} (h : c ∈ scanL l a b) : 0 < c.row.length := by
  unfold scanL at h
  split at h
  · rename_i hm
    obtain ⟨i, hi, rfl⟩ := List.mem_iff_getElem.1 (List.mem_filter.1 h).1
    exact mayL_row hm hi
  · cases h

theorem reads_Between_res {l : List Rel} (hl : okRs l) (t : List UInt8) (a b : Val) : (m_reads_Between [.l (l.map Rel.e), .s (bs t), .i a.k, .i a.n, .s (bs a.s), .i b.k, .i b.n, .s (bs b.s)]).res =
    some (0, [.s (bs t), .i a.k, .i a.n, .s (bs a.s), .i b.k, .i b.n, .s (bs b.s), .l ((btwV l t a b).map Read.e)]) := by
  have hS := okL_sub (lookR_ok hl t) (scanL_sub (lookR l t).recs a b)
  have hfew := Nat.le_trans (scanL_sub (lookR l t).recs a b).length_le (lookR_few hl t)
  generalize hs : scanL (lookR l t).recs a b = sc at hS hfew
  have h0 := hS.1
  have h := loop_acc (rd := rd_reads_Between_23_3) sc.length (fun i => [.s (bs t), .i sc.length, .i (i : Nat), .s (bs []), .i 0, .i 0, .s (bs []), .i 0, .i 0, .s (bs []), .s (bs t), .i a.k, .i a.n, .s (bs a.s), .i b.k, .i b.n, .s (bs b.s), .l (sc.map Rec.e), .l (((sc.take i).map (toRead t)).map Read.e)])
    (some (0, [.s (bs []), .i 0, .i 0, .s (bs []), .i 0, .i 0, .s (bs []), .s (bs t), .i a.k, .i a.n, .s (bs a.s), .i b.k, .i b.n, .s (bs b.s), .l ((sc.map (toRead t)).map Read.e)]))
    (lres_stop (by simp [rd_reads_Between_23_3])) (by
    intro i hi
    have hr : 0 < (sc[i]).row.length := scanL_row (by rw [hs]; exact List.getElem_mem hi)
    have hg := hd_re hr
    have hb : ((sc.take i).length + 1) * 56 ≤ 140737488355328 := by rw [List.length_take]; omega
    rw [take_succ hi, List.map_append, List.map_append]
    generalize sc.take i = u at hb ⊢
    simp [rd_reads_Between_23_3, hi, Rec.e, Read.e, toRead, hr, hg, Val.e, Rec.key, hb, w64_succ (i := i) (by omega)])
  simp only [Int.natCast_zero, List.take_zero, List.map_nil] at h
  simp only [List.map_map] at h
  simp [m_reads_Between, reads_Look_res hl.1, rel_Scan_res _ (lookR_ok hl t) a b, hs, emp_bs, h, btwV]

/-! the same reads -/

theorem read_ext {x y : Read} : (x.table = y.table ∧ (x.key.k = y.key.k ∧ x.key.n = y.key.n ∧ x.key.s = y.key.s) ∧ x.tid = y.tid) ↔ x = y := by
  obtain ⟨a, ⟨b, c, d⟩, e⟩ := x
  obtain ⟨a', ⟨b', c', d'⟩, e'⟩ := y
  simp

theorem list_ne {α : Type} {a b : List α} {i : Nat} (h1 : i < a.length) (h2 : i < b.length) (h : a[i] ≠ b[i]) : a ≠ b := fun e => by subst e; exact h rfl

theorem slices_Equal_res {a b : List Read} (h0 : a.length ≤ 4398046511104) : (m_slices_Equal_ [.l (a.map Read.e), .l (b.map Read.e)]).res = some (0, [.b (decide (a = b))]) := by
  by_cases hl : a.length = b.length
  · have h := loop_ix a.length (rd := rd_slices_Equal__59_4) (fun i => [.l (a.map Read.e), .l (b.map Read.e), .i a.length, .i (i : Nat)]) (fun i => decide (a[i]? = b[i]?)) 0 1
      (fun i => [.b false]) [] (by simp [rd_slices_Equal__59_4]) (by
      intro i h1 _
      have h2 : i < b.length := by omega
      have hx := read_ext (x := a[i]) (y := b[i])
      by_cases he : a[i] = b[i]
      · have hx' := hx.2 he
        simp [rd_slices_Equal__59_4, el_at _ h1, el_at _ h2, h1, h2, Read.e, w64_succ (i := i) (by omega), he]
      · have hx' := fun h => he (hx.1 h)
        simp [rd_slices_Equal__59_4, el_at _ h1, el_at _ h2, h1, h2, Read.e, he]
        intro a1 a2 a3 a4 a5
        exact hx' ⟨a1, ⟨a2, a3, a4⟩, a5⟩)
    simp only [Int.natCast_zero] at h
    rcases h with ⟨h1, h2⟩ | ⟨i, hi, h1, _, h2⟩
    · have he : a = b := List.ext_getElem? fun i => by
        by_cases hi : i < a.length
        · simpa using h1 i hi
        · rw [List.getElem?_eq_none (by omega), List.getElem?_eq_none (by omega)]
      subst he
      simp [m_slices_Equal_, h2]
    · have he : a ≠ b := fun e => by subst e; simp at h1
      rw [hl] at h2
      simp [m_slices_Equal_, h2, hl, he]
  · have hl' : ¬ (a.length : Int) = b.length := by omega
    have he : a ≠ b := fun e => hl (by rw [e])
    simp [m_slices_Equal_, hl', he]

end Go.Proofs.Ytfjjionebffekaa

set_option linter.unusedVariables false
set_option linter.unusedSimpArgs false
namespace Go.Proofs.Ytfjjionebffekaa
open Go Go.Pu

/-- a loop that holds two lists against each other -/
theorem loop_eq {α : Type} [DecidableEq α] {a b : List α} (hl : a.length = b.length) {rd : List U → Rt} (st : Nat → List U) (j0 j1 : Nat) (u0 u1 : List U)
    (hend : (rd (st a.length)).val = some (.stop j1 u1))
    (hstep : ∀ i (h1 : i < a.length) (h2 : i < b.length), (rd (st i)).val = if a[i] = b[i] then some (.next (st (i + 1))) else some (.stop j0 u0)) :
    lres rd (st 0) = if a = b then some (j1, u1) else some (j0, u0) := by
  rcases loop_ix a.length st (fun i => decide (a[i]? = b[i]?)) j0 j1 (fun _ => u0) u1 hend (fun i h1 _ => by
      have h2 : i < b.length := by omega
      rw [hstep i h1 h2]; simp [h1, h2]) with ⟨h1, h2⟩ | ⟨i, hi, h1, _, h2⟩
  · have he : a = b := List.ext_getElem? fun i => by
      by_cases hi : i < a.length
      · simpa using h1 i hi
      · rw [List.getElem?_eq_none (by omega), List.getElem?_eq_none (by omega)]
    rw [if_pos he, h2]
  · have he : a ≠ b := fun e => by subst e; simp at h1
    rw [if_neg he, h2]

theorem cnt_ext {x y : Cnt} : (x.n = y.n ∧ x.row = y.row) ↔ x = y := by
  obtain ⟨a, b⟩ := x
  obtain ⟨a', b'⟩ := y
  simp [And.comm]

theorem rec_ext {x y : Rec} : (x.tid = y.tid ∧ x.row = y.row) ↔ x = y := by
  obtain ⟨a, b⟩ := x
  obtain ⟨a', b'⟩ := y
  simp [And.comm]

theorem reads_same_res {a b : List Cnt} (ha : okB a) (hb : okB b) : (m_reads_same [.l (a.map Cnt.e), .l (b.map Cnt.e)]).res = some (0, [.b (decide (a = b))]) := by
  have h0 := ha.1
  by_cases hl : a.length = b.length
  · have h := loop_eq hl (rd := rd_reads_same_83_4) (fun i => [.l (b.map Cnt.e), .l (a.map Cnt.e), .i a.length, .i (i : Nat)]) 0 1 [.b false] [] (by simp [rd_reads_same_83_4]) (by
      intro i h1 h2
      have hc := row_Compare_res a[i].row b[i].row (ha.2 _ (List.getElem_mem h1)).1.1
      have hz := cR.zero a[i].row b[i].row
      have hx := cnt_ext (x := a[i]) (y := b[i])
      by_cases he : a[i] = b[i]
      · have hs := cR.self b[i].row
        rw [he] at hc
        simp [rd_reads_same_83_4, el_at _ h1, el_at _ h2, h1, h2, Cnt.e, w64_succ (i := i) (by omega), he, hc, hs]
      · by_cases hn : a[i].n = b[i].n
        · have hr : ¬ cmpR a[i].row b[i].row = 0 := fun h => he (hx.1 ⟨hn, hz.1 h⟩)
          simp [rd_reads_same_83_4, el_at _ h1, el_at _ h2, h1, h2, Cnt.e, he, hn, hc, hr]
        · simp [rd_reads_same_83_4, el_at _ h1, el_at _ h2, h1, h2, Cnt.e, he, hn])
    simp only [Int.natCast_zero] at h
    by_cases he : a = b
    · subst he
      simp at h
      simp [m_reads_same, h]
    · rw [if_neg he, hl] at h
      simp [m_reads_same, h, hl, he]
  · have hl' : ¬ (a.length : Int) = b.length := by omega
    have he : a ≠ b := fun e => hl (by rw [e])
    simp [m_reads_same, hl', he]

theorem R05_Same_res {a b : List Cnt} (ha : okB a) (hb : okB b) : (m_R05_Same [.l (a.map Cnt.e), .l (b.map Cnt.e)]).res = some (0, [.b (decide (a = b))]) := by
  have h0 := ha.1
  by_cases hl : a.length = b.length
  · have h := loop_eq hl (rd := rd_R05_Same_45_4) (fun i => [.l (a.map Cnt.e), .l (b.map Cnt.e), .i (i : Nat)]) 0 1 [.b false] [] (by simp [rd_R05_Same_45_4]) (by
      intro i h1 h2
      have hc := R02_Compare_res a[i].row b[i].row (ha.2 _ (List.getElem_mem h1)).1.1
      have hz := cR.zero a[i].row b[i].row
      have hx := cnt_ext (x := a[i]) (y := b[i])
      by_cases he : a[i] = b[i]
      · have hs := cR.self b[i].row
        rw [he] at hc
        simp [rd_R05_Same_45_4, el_at _ h1, el_at _ h2, h1, h2, Cnt.e, w64_succ (i := i) (by omega), he, hc, hs]
      · by_cases hn : a[i].n = b[i].n
        · have hr : ¬ cmpR a[i].row b[i].row = 0 := fun h => he (hx.1 ⟨hn, hz.1 h⟩)
          simp [rd_R05_Same_45_4, el_at _ h1, el_at _ h2, h1, h2, Cnt.e, he, hn, hc, hr]
        · simp [rd_R05_Same_45_4, el_at _ h1, el_at _ h2, h1, h2, Cnt.e, he, hn])
    simp only [Int.natCast_zero] at h
    by_cases he : a = b
    · subst he
      simp at h
      simp [m_R05_Same, h]
    · rw [if_neg he] at h
      simp [m_R05_Same, h, hl, he]
  · have hl' : ¬ (a.length : Int) = b.length := by omega
    have he : a ≠ b := fun e => hl (by rw [e])
    simp [m_R05_Same, hl', he]

/-! a view's rows -/

def okSs (l : List Src) : Prop := l.length ≤ 4398046511104 ∧ ∀ c ∈ l, c.ok
def lookV (l : List Src) (t : List UInt8) : List Cnt := match l.find? (fun r => decide (r.name = t)) with | some r => r.rows | none => []

theorem lookV_ok {l : List Src} (h : okSs l) (t : List UInt8) : okB (lookV l t) := by
  unfold lookV
  split
  · rename_i r hr
    exact (h.2 r (List.mem_of_find?_eq_some hr)).2
  · exact ⟨by simp, fun c hc => by cases hc⟩

theorem view_Look_res {l : List Src} (h0 : l.length ≤ 4398046511104) (t : List UInt8) : (m_view_Look [.l (l.map Src.e), .s (bs t)]).res = some (0, [.l ((lookV l t).map Cnt.e)]) := by
  have hl := loop_all l (rd := rd_view_Look_86_2) (fun i => [.l (l.map Src.e), .i l.length, .i (i : Nat), .s (bs t)]) (fun r => !decide (r.name = t)) 0 1 (fun i => [.i (i : Nat), .s (bs t)]) [.s (bs t)] (by simp [rd_view_Look_86_2]) (by
    intro i h
    by_cases hm : l[i].name = t <;> simp [rd_view_Look_86_2, el_at _ h, h, w64_succ (i := i) (by omega), Src.e, hm])
  simp only [Int.natCast_zero] at hl
  rcases hl with ⟨h1, h2⟩ | ⟨h1, i, h, h3, h4, h2⟩
  · simp [m_view_Look, h2, lookV, find_nil h1]
  · have hi : ¬ (i : Int) < 0 := by omega
    simp [m_view_Look, h2, lookV, find_first (q := fun r : Src => decide (r.name = t)) h h3 h4, hi, h, el_at _ h, Src.e]

theorem R12_Find_res {l : List Src} (h0 : l.length ≤ 4398046511104) (t : List UInt8) : (m_R12_Find [.l (l.map Src.e), .s (bs t)]).res = some (0, [.l ((lookV l t).map Cnt.e)]) := by
  have hl := loop_all l (rd := rd_R12_Find_27_2) (fun i => [.l (l.map Src.e), .s (bs t), .i (i : Nat)]) (fun r => !decide (r.name = t)) 0 1 (fun i => [.l ((l.getD i ⟨[], []⟩).rows.map Cnt.e)]) [] (by simp [rd_R12_Find_27_2]) (by
    intro i h
    by_cases hm : l[i].name = t <;> simp [rd_R12_Find_27_2, el_at _ h, h, w64_succ (i := i) (by omega), Src.e, hm, List.getD])
  simp only [Int.natCast_zero] at hl
  rcases hl with ⟨h1, h2⟩ | ⟨h1, i, h, h3, h4, h2⟩
  · simp [m_R12_Find, h2, lookV, find_nil h1]
  · simp [m_R12_Find, h2, lookV, find_first (q := fun r : Src => decide (r.name = t)) h h3 h4, h, List.getD]

/-! is what was read so? -/

def okSeen (s : Seen) : Prop := (s.reads.length ≤ 4398046511104 ∧ ∀ c ∈ s.reads, c.ok) ∧ (s.ranges.length ≤ 4398046511104 ∧ ∀ c ∈ s.ranges, c.ok) ∧ (s.looks.length ≤ 4398046511104 ∧ ∀ c ∈ s.looks, c.ok)
def vR (l : List Rel) (x : Read) : Bool := decide (oneV l x.table x.key = x)
def vG (l : List Rel) (x : Rng) : Bool := decide (btwV l x.table x.lo x.hi = x.found)
def vL (vs : List Src) (x : Look) : Bool := decide (lookV vs x.view = x.rows)
def validV (l : List Rel) (vs : List Src) (s : Seen) : Bool := s.reads.all (vR l) && s.ranges.all (vG l) && s.looks.all (vL vs)

theorem btwV_len {l : List Rel} (hl : okRs l) (t : List UInt8) (a b : Val) : (btwV l t a b).length ≤ 60 := by
  unfold btwV
  rw [List.length_map]
  exact Nat.le_trans (scanL_sub _ a b).length_le (lookR_few hl t)

theorem vR_loop {l : List Rel} (hl : okRs l) {rs : List Read} (h0 : rs.length ≤ 4398046511104) :
    (rs.all (vR l) = true ∧ lres rd_reads_Valid_101_2 [.l (rs.map Read.e), .i rs.length, .i 0, .l (l.map Rel.e)] = some (1, [.l (l.map Rel.e)])) ∨
    (rs.all (vR l) = false ∧ ∃ i : Nat, lres rd_reads_Valid_101_2 [.l (rs.map Read.e), .i rs.length, .i 0, .l (l.map Rel.e)] = some (0, [.i (i : Nat), .l (l.map Rel.e)])) := by
  have h := loop_all rs (rd := rd_reads_Valid_101_2) (fun i => [.l (rs.map Read.e), .i rs.length, .i (i : Nat), .l (l.map Rel.e)]) (vR l) 0 1 (fun i => [.i (i : Nat), .l (l.map Rel.e)]) [.l (l.map Rel.e)] (by simp [rd_reads_Valid_101_2]) (by
    intro i h
    have ho := reads_One_res hl rs[i].table rs[i].key
    by_cases hv : (oneV l rs[i].table rs[i].key).tid = rs[i].tid
    · have he : oneV l rs[i].table rs[i].key = rs[i] := by
        have := read_ext (x := oneV l rs[i].table rs[i].key) (y := rs[i])
        exact this.1 ⟨rfl, ⟨rfl, rfl, rfl⟩, hv⟩
      have : vR l rs[i] = true := decide_eq_true he
      simp [rd_reads_Valid_101_2, el_at _ h, h, Read.e, ho, hv, this, w64_succ (i := i) (by omega)]
    · have : vR l rs[i] = false := decide_eq_false fun e => hv (by rw [e])
      simp [rd_reads_Valid_101_2, el_at _ h, h, Read.e, ho, hv, this])
  simp only [Int.natCast_zero] at h
  rcases h with ⟨h1, h2⟩ | ⟨h1, i, _, _, _, h2⟩
  · exact .inl ⟨h1, h2⟩
  · exact .inr ⟨h1, i, h2⟩

theorem vG_loop {l : List Rel} (hl : okRs l) {rs : List Rng} (h0 : rs.length ≤ 4398046511104) :
    (rs.all (vG l) = true ∧ lres rd_reads_Valid_102_2 [.l (rs.map Rng.e), .i rs.length, .i 0, .l (l.map Rel.e)] = some (1, [.l (l.map Rel.e)])) ∨
    (rs.all (vG l) = false ∧ ∃ i : Nat, lres rd_reads_Valid_102_2 [.l (rs.map Rng.e), .i rs.length, .i 0, .l (l.map Rel.e)] = some (0, [.i (i : Nat), .l (l.map Rel.e)])) := by
  have h := loop_all rs (rd := rd_reads_Valid_102_2) (fun i => [.l (rs.map Rng.e), .i rs.length, .i (i : Nat), .l (l.map Rel.e)]) (vG l) 0 1 (fun i => [.i (i : Nat), .l (l.map Rel.e)]) [.l (l.map Rel.e)] (by simp [rd_reads_Valid_102_2]) (by
    intro i h
    have ho := reads_Between_res hl rs[i].table rs[i].lo rs[i].hi
    have he := slices_Equal_res (a := btwV l rs[i].table rs[i].lo rs[i].hi) (b := rs[i].found) (Nat.le_trans (btwV_len hl _ _ _) (by decide))
    by_cases hv : btwV l rs[i].table rs[i].lo rs[i].hi = rs[i].found
    · have : vG l rs[i] = true := decide_eq_true hv
      rw [decide_eq_true hv] at he
      simp [rd_reads_Valid_102_2, el_at _ h, h, Rng.e, ho, he, this, w64_succ (i := i) (by omega)]
    · have : vG l rs[i] = false := decide_eq_false hv
      rw [decide_eq_false hv] at he
      simp [rd_reads_Valid_102_2, el_at _ h, h, Rng.e, ho, he, this])
  simp only [Int.natCast_zero] at h
  rcases h with ⟨h1, h2⟩ | ⟨h1, i, _, _, _, h2⟩
  · exact .inl ⟨h1, h2⟩
  · exact .inr ⟨h1, i, h2⟩

theorem vL_loop {vs : List Src} (hl : okSs vs) {rs : List Look} (h0 : rs.length ≤ 4398046511104 ∧ ∀ c ∈ rs, c.ok) :
    (rs.all (vL vs) = true ∧ lres rd_reads_Valid_103_2 [.l (rs.map Look.e), .i rs.length, .i 0, .l (vs.map Src.e)] = some (1, [.l (vs.map Src.e)])) ∨
    (rs.all (vL vs) = false ∧ ∃ i : Nat, lres rd_reads_Valid_103_2 [.l (rs.map Look.e), .i rs.length, .i 0, .l (vs.map Src.e)] = some (0, [.i (i : Nat), .l (vs.map Src.e)])) := by
  have h0' := h0.1
  have h := loop_all rs (rd := rd_reads_Valid_103_2) (fun i => [.l (rs.map Look.e), .i rs.length, .i (i : Nat), .l (vs.map Src.e)]) (vL vs) 0 1 (fun i => [.i (i : Nat), .l (vs.map Src.e)]) [.l (vs.map Src.e)] (by simp [rd_reads_Valid_103_2]) (by
    intro i h
    have ho := view_Look_res hl.1 rs[i].view
    have he := reads_same_res (a := lookV vs rs[i].view) (b := rs[i].rows) (lookV_ok hl _) (h0.2 _ (List.getElem_mem h)).2
    by_cases hv : lookV vs rs[i].view = rs[i].rows
    · have : vL vs rs[i] = true := decide_eq_true hv
      rw [decide_eq_true hv] at he
      simp [rd_reads_Valid_103_2, el_at _ h, h, Look.e, ho, he, this, w64_succ (i := i) (by omega)]
    · have : vL vs rs[i] = false := decide_eq_false hv
      rw [decide_eq_false hv] at he
      simp [rd_reads_Valid_103_2, el_at _ h, h, Look.e, ho, he, this])
  simp only [Int.natCast_zero] at h
  rcases h with ⟨h1, h2⟩ | ⟨h1, i, _, _, _, h2⟩
  · exact .inl ⟨h1, h2⟩
  · exact .inr ⟨h1, i, h2⟩

theorem reads_Valid_res {l : List Rel} (hl : okRs l) {vs : List Src} (hv : okSs vs) {s : Seen} (hs : okSeen s) :
    (m_reads_Valid [.l (l.map Rel.e), .l (vs.map Src.e), .l (s.reads.map Read.e), .l (s.ranges.map Rng.e), .l (s.looks.map Look.e)]).res = some (0, [.b (validV l vs s)]) := by
  have nn : ∀ i : Nat, (0 : Int) ≤ (i : Int) := fun i => Int.natCast_nonneg i
  rcases vR_loop hl hs.1.1 with ⟨a1, a2⟩ | ⟨a1, i, a2⟩
  · rcases vG_loop hl hs.2.1.1 with ⟨b1, b2⟩ | ⟨b1, j, b2⟩
    · rcases vL_loop hv hs.2.2 with ⟨c1, c2⟩ | ⟨c1, k, c2⟩
      · simp [m_reads_Valid, a2, b2, c2, validV, a1, b1, c1]
      · simp [m_reads_Valid, a2, b2, c2, validV, a1, b1, c1, nn]
    · simp [m_reads_Valid, a2, b2, validV, a1, b1, nn]
  · simp [m_reads_Valid, a2, validV, a1, nn]

end Go.Proofs.Ytfjjionebffekaa

set_option linter.unusedVariables false
set_option linter.unusedSimpArgs false
namespace Go.Proofs.Ytfjjionebffekaa
open Go Go.Pu

def shortR (r : List Val) : Bool := r.all (fun v => decide (v.s.length ≤ 1000)) && decide (r.length ≤ 40)

theorem cast_le (n : Nat) (k : Nat) : ((n : Int) ≤ (k : Int)) ↔ n ≤ k := by omega

theorem R02_Short_res {r : List Val} (hr : okR r) : (m_R02_Short [.l (re r)]).res = some (0, [.b (shortR r)]) := by
  have h0 := hr.1
  have hl := loop_all' r (rd := rd_R02_Short_36_2) (fun i => [.l (re r), .i (i : Nat)]) (fun v => decide (v.s.length ≤ 1000)) 0 1 [.b false] [.l (re r)] (by simp [rd_R02_Short_36_2]) (by
    intro i h
    have h5 : ((1000 : Int) < (r[i].s.length : Int)) ↔ ¬ r[i].s.length ≤ 1000 := by omega
    by_cases hm : r[i].s.length ≤ 1000 <;> simp [rd_R02_Short_36_2, el_re _ h, h, w64_succ (i := i) (by omega), Val.e, h5, hm])
  simp only [Int.natCast_zero] at hl
  have h40 : ((r.length : Int) ≤ 40) ↔ r.length ≤ 40 := by omega
  by_cases h1 : r.all (fun v => decide (v.s.length ≤ 1000)) = true
  · rw [if_pos h1] at hl
    simp [m_R02_Short, hl, shortR, h1, h40]
  · rw [if_neg h1] at hl
    have h1' : r.all (fun v => decide (v.s.length ≤ 1000)) = false := by simpa using h1
    simp [m_R02_Short, hl, shortR, h1']

def smallT (r : Rel) : Bool := r.recs.all (fun c => shortR c.row) && decide (r.recs.length ≤ 60) && decide (r.name.length ≤ 100)

theorem R16_Small_res {r : Rel} (hr : r.ok) : (m_R16_Small [.s (bs r.name), .l (r.recs.map Rec.e)]).res = some (0, [.b (smallT r)]) := by
  have h0 := hr.2.1
  have hl := loop_all' r.recs (rd := rd_R16_Small_28_2) (fun i => [.i (i : Nat), .s (bs r.name), .l (r.recs.map Rec.e)]) (fun c => shortR c.row) 0 1 [.b false] [.s (bs r.name), .l (r.recs.map Rec.e)] (by simp [rd_R16_Small_28_2]) (by
    intro i h
    have hs := R02_Short_res (hr.2.2 _ (List.getElem_mem h)).1
    by_cases hm : shortR r.recs[i].row = true <;> simp [rd_R16_Small_28_2, el_at _ h, h, w64_succ (i := i) (by omega), Rec.e, hs, hm])
  simp only [Int.natCast_zero] at hl
  have h60 : ((r.recs.length : Int) ≤ 60) ↔ r.recs.length ≤ 60 := by omega
  have h100 : ((r.name.length : Int) ≤ 100) ↔ r.name.length ≤ 100 := by omega
  by_cases h1 : r.recs.all (fun c => shortR c.row) = true
  · rw [if_pos h1] at hl
    by_cases h2 : r.recs.length ≤ 60 <;> simp [m_R16_Small, hl, smallT, h1, h60, h100, h2]
  · rw [if_neg h1] at hl
    have h1' : r.recs.all (fun c => shortR c.row) = false := by simpa using h1
    simp [m_R16_Small, hl, smallT, h1']

def smallRs (l : List Rel) : Bool := l.all (fun r => smallT r && decide (r.recs.length ≤ 20)) && decide (l.length ≤ 8)

theorem R20_Small_res {l : List Rel} (hl : l.length ≤ 4398046511104 ∧ ∀ c ∈ l, c.ok) : (m_R20_Small [.l (l.map Rel.e)]).res = some (0, [.b (smallRs l)]) := by
  have h0 := hl.1
  have h := loop_all' l (rd := rd_R20_Small_13_2) (fun i => [.l (l.map Rel.e), .i (i : Nat)]) (fun r => smallT r && decide (r.recs.length ≤ 20)) 0 1 [.b false] [.l (l.map Rel.e)] (by simp [rd_R20_Small_13_2]) (by
    intro i h
    have hs := R16_Small_res (hl.2 _ (List.getElem_mem h))
    have h20 : ((20 : Int) < (l[i].recs.length : Int)) ↔ ¬ l[i].recs.length ≤ 20 := by omega
    by_cases hm : smallT l[i] = true
    · by_cases h2 : l[i].recs.length ≤ 20 <;> simp [rd_R20_Small_13_2, el_at _ h, h, w64_succ (i := i) (by omega), Rel.e, hs, hm, h20, h2]
    · have hm' : smallT l[i] = false := by simpa using hm
      simp [rd_R20_Small_13_2, el_at _ h, h, Rel.e, hs, hm'])
  simp only [Int.natCast_zero] at h
  have h8 : ((l.length : Int) ≤ 8) ↔ l.length ≤ 8 := by omega
  by_cases h1 : l.all (fun r => smallT r && decide (r.recs.length ≤ 20)) = true
  · rw [if_pos h1] at h
    simp [m_R20_Small, h, smallRs, h1, h8]
  · rw [if_neg h1] at h
    have h1' : l.all (fun r => smallT r && decide (r.recs.length ≤ 20)) = false := by simpa using h1
    simp [m_R20_Small, h, smallRs, h1']

theorem smallRs_ok {l : List Rel} (hl : l.length ≤ 4398046511104 ∧ ∀ c ∈ l, c.ok) (h : smallRs l = true) : okRs l := by
  simp only [smallRs, Bool.and_eq_true, List.all_eq_true, decide_eq_true_eq] at h
  exact ⟨hl.1, fun c hc => ⟨hl.2 c hc, by have := (h.1 c hc).2; omega⟩⟩

def smallB (b : List Cnt) : Bool := b.all (fun c => shortR c.row) && decide (b.length ≤ 60)

theorem R05_Small_res {b : List Cnt} (hb : okB b) : (m_R05_Small [.l (b.map Cnt.e)]).res = some (0, [.b (smallB b)]) := by
  have h0 := hb.1
  have hl := loop_all' b (rd := rd_R05_Small_50_2) (fun i => [.l (b.map Cnt.e), .i (i : Nat)]) (fun c => shortR c.row) 0 1 [.b false] [.l (b.map Cnt.e)] (by simp [rd_R05_Small_50_2]) (by
    intro i h
    have hs := R02_Short_res (hb.2 _ (List.getElem_mem h)).1
    by_cases hm : shortR b[i].row = true <;> simp [rd_R05_Small_50_2, el_at _ h, h, w64_succ (i := i) (by omega), Cnt.e, hs, hm])
  simp only [Int.natCast_zero] at hl
  have h60 : ((b.length : Int) ≤ 60) ↔ b.length ≤ 60 := by omega
  by_cases h1 : b.all (fun c => shortR c.row) = true
  · rw [if_pos h1] at hl
    simp [m_R05_Small, hl, smallB, h1, h60]
  · rw [if_neg h1] at hl
    have h1' : b.all (fun c => shortR c.row) = false := by simpa using h1
    simp [m_R05_Small, hl, smallB, h1']

def lowC (c : Cnt) : Bool := decide (-1000 ≤ c.n ∧ c.n ≤ 1000)
def lowB (b : List Cnt) : Bool := b.all lowC && smallB b

theorem R10_Low_res {b : List Cnt} (hb : okB b) : (m_R10_Low [.l (b.map Cnt.e)]).res = some (0, [.b (lowB b)]) := by
  have h0 := hb.1
  have hs := R05_Small_res hb
  have hl := loop_all' b (rd := rd_R10_Low_51_2) (fun i => [.l (b.map Cnt.e), .i (i : Nat)]) lowC 0 1 [.b false] [.l (b.map Cnt.e)] (by simp [rd_R10_Low_51_2]) (by
    intro i h
    by_cases h1 : b[i].n ≤ 1000
    · have h1' : ¬ 1000 < b[i].n := by omega
      by_cases h2 : -1000 ≤ b[i].n
      · have h2' : ¬ b[i].n < -1000 := by omega
        simp [rd_R10_Low_51_2, el_at _ h, h, w64_succ (i := i) (by omega), Cnt.e, h1, h1', h2, h2', lowC]
      · have h2' : b[i].n < -1000 := by omega
        simp [rd_R10_Low_51_2, el_at _ h, h, w64_succ (i := i) (by omega), Cnt.e, h1, h1', h2, h2', lowC]
    · have h1' : 1000 < b[i].n := by omega
      simp [rd_R10_Low_51_2, el_at _ h, h, Cnt.e, h1, h1', lowC])
  simp only [Int.natCast_zero] at hl
  by_cases h1 : b.all lowC = true
  · rw [if_pos h1] at hl
    simp [m_R10_Low, hl, lowB, h1, hs]
  · rw [if_neg h1] at hl
    have h1' : b.all lowC = false := by simpa using h1
    simp [m_R10_Low, hl, lowB, h1']

def smallSs (l : List Src) : Bool := l.all (fun r => decide (r.rows.length ≤ 12) && lowB r.rows) && decide (l.length ≤ 6)

theorem R12_Small_res {l : List Src} (hl : okSs l) : (m_R12_Small [.l (l.map Src.e)]).res = some (0, [.b (smallSs l)]) := by
  have h0 := hl.1
  have h := loop_all' l (rd := rd_R12_Small_15_2) (fun i => [.l (l.map Src.e), .i (i : Nat)]) (fun r => decide (r.rows.length ≤ 12) && lowB r.rows) 0 1 [.b false] [.l (l.map Src.e)] (by simp [rd_R12_Small_15_2]) (by
    intro i h
    have hs := R10_Low_res (hl.2 _ (List.getElem_mem h)).2
    have h12 : ((12 : Int) < (l[i].rows.length : Int)) ↔ ¬ l[i].rows.length ≤ 12 := by omega
    by_cases h2 : l[i].rows.length ≤ 12
    · by_cases hm : lowB l[i].rows = true
      · simp [rd_R12_Small_15_2, el_at _ h, h, w64_succ (i := i) (by omega), Src.e, hs, hm, h12, h2]
      · have hm' : lowB l[i].rows = false := by simpa using hm
        simp [rd_R12_Small_15_2, el_at _ h, h, Src.e, hs, hm', h12, h2]
    · simp [rd_R12_Small_15_2, el_at _ h, h, Src.e, h12, h2])
  simp only [Int.natCast_zero] at h
  have h6 : ((l.length : Int) ≤ 6) ↔ l.length ≤ 6 := by omega
  by_cases h1 : l.all (fun r => decide (r.rows.length ≤ 12) && lowB r.rows) = true
  · rw [if_pos h1] at h
    simp [m_R12_Small, h, smallSs, h1, h6]
  · rw [if_neg h1] at h
    have h1' : l.all (fun r => decide (r.rows.length ≤ 12) && lowB r.rows) = false := by simpa using h1
    simp [m_R12_Small, h, smallSs, h1']

def few (s : Seen) : Bool := s.looks.all (fun x => smallB x.rows) && s.ranges.all (fun x => decide (x.found.length ≤ 60)) && decide (s.reads.length ≤ 60) && decide (s.ranges.length ≤ 60) && decide (s.looks.length ≤ 60)

theorem R20_Few_res {s : Seen} (hs : okSeen s) : (m_R20_Few [.l (s.reads.map Read.e), .l (s.ranges.map Rng.e), .l (s.looks.map Look.e)]).res = some (0, [.b (few s)]) := by
  obtain ⟨⟨r1, r2⟩, ⟨g1, g2⟩, ⟨k1, k2⟩⟩ := hs
  have h := loop_all' s.looks (rd := rd_R20_Few_14_2) (fun i => [.i (i : Nat), .l (s.reads.map Read.e), .l (s.ranges.map Rng.e), .l (s.looks.map Look.e)]) (fun x => smallB x.rows) 0 1 [.b false] [.l (s.reads.map Read.e), .l (s.ranges.map Rng.e), .l (s.looks.map Look.e)] (by simp [rd_R20_Few_14_2]) (by
    intro i h
    have hb := R05_Small_res (k2 _ (List.getElem_mem h)).2
    by_cases hm : smallB s.looks[i].rows = true
    · simp [rd_R20_Few_14_2, el_at _ h, h, w64_succ (i := i) (by omega), Look.e, hb, hm]
    · have hm' : smallB s.looks[i].rows = false := by simpa using hm
      simp [rd_R20_Few_14_2, el_at _ h, h, Look.e, hb, hm'])
  have g := loop_all' s.ranges (rd := rd_R20_Few_14_7) (fun i => [.i (i : Nat), .l (s.reads.map Read.e), .l (s.ranges.map Rng.e), .l (s.looks.map Look.e)]) (fun x => decide (x.found.length ≤ 60)) 0 1 [.b false] [.l (s.reads.map Read.e), .l (s.ranges.map Rng.e), .l (s.looks.map Look.e)] (by simp [rd_R20_Few_14_7]) (by
    intro i h
    have h60 : ((60 : Int) < (s.ranges[i].found.length : Int)) ↔ ¬ s.ranges[i].found.length ≤ 60 := by omega
    by_cases hm : s.ranges[i].found.length ≤ 60 <;> simp [rd_R20_Few_14_7, el_at _ h, h, w64_succ (i := i) (by omega), Rng.e, h60, hm])
  simp only [Int.natCast_zero] at h g
  have e1 : ((s.reads.length : Int) ≤ 60) ↔ s.reads.length ≤ 60 := by omega
  have e2 : ((s.ranges.length : Int) ≤ 60) ↔ s.ranges.length ≤ 60 := by omega
  have e3 : ((s.looks.length : Int) ≤ 60) ↔ s.looks.length ≤ 60 := by omega
  by_cases h1 : s.looks.all (fun x => smallB x.rows) = true
  · rw [if_pos h1] at h
    by_cases h2 : s.ranges.all (fun x => decide (x.found.length ≤ 60)) = true
    · rw [if_pos h2] at g
      by_cases h3 : s.reads.length ≤ 60
      · by_cases h4 : s.ranges.length ≤ 60 <;> simp [m_R20_Few, h, g, few, h1, h2, e1, e2, e3, h3, h4]
      · simp [m_R20_Few, h, g, few, h1, h2, e1, e2, e3, h3]
    · rw [if_neg h2] at g
      have h2' : s.ranges.all (fun x => decide (x.found.length ≤ 60)) = false := by simpa using h2
      simp [m_R20_Few, h, g, few, h1, h2']
  · rw [if_neg h1] at h
    have h1' : s.looks.all (fun x => smallB x.rows) = false := by simpa using h1
    simp [m_R20_Few, h, few, h1']

end Go.Proofs.Ytfjjionebffekaa

set_option linter.unusedVariables false
set_option linter.unusedSimpArgs false
set_option linter.constructorNameAsVariable false
namespace Go.Proofs.Ytfjjionebffekaa
open Go Go.Pu

theorem law_of_row {P : Program} {X : Ext} {M : FuncId → Bool} {L : FuncId → Nat → Option (List Nat)} {f : FuncId} {S : FSp} {m : List U → Rt} {xs : List PV} {us : List U} (hX : X f = some (gF S m)) (hd : decs S.ap (nrms S.ap xs) = some us)
    (ha : S.ah = []) (ho : S.outs = [([.one .b], [])]) (hr : (m us).res = some (0, [.b true])) : ∃ n hc, call P X M L n f xs [] = some (.bool true, hc) := by
  refine ⟨1, [], ?_⟩
  simp only [call, hX, gF, gW, hd, ha, decH, fU_eq, List.append_nil, ho, outsTr, Tr.val, hr, ok_some', out_some, beq_self_eq_true, if_true]
  rfl

set_option maxRecDepth 100000 in
theorem arg_sl {t e : TypeId} {x : PV} (hu : kdOf Try.prog t = .sl e) (h1 : ArgGd Try.prog t x = Gd Try.prog (kdOf Try.prog t) x) (h : ArgGd Try.prog t x) : Gd Try.prog (.sl e) x := by
  rw [h1, hu] at h; exact h

structure Ask where
  table : List UInt8
  key : Val
  hi : Val
  s : Seen
  views : List Src

def Ask.us (a : Ask) : List U := [.s (bs a.table), .i a.key.k, .i a.key.n, .s (bs a.key.s), .i a.hi.k, .i a.hi.n, .s (bs a.hi.s), .l (a.s.reads.map Read.e), .l (a.s.ranges.map Rng.e), .l (a.s.looks.map Look.e), .l (a.views.map Src.e)]
def Ask.pv (a : Ask) : PV := .agg [pS (bs a.table), pI a.key.k, pI a.key.n, pS (bs a.key.s), pI a.hi.k, pI a.hi.n, pS (bs a.hi.s), .lst 43 (a.s.reads.map Read.e), .lst 47 (a.s.ranges.map Rng.e), .lst 55 (a.s.looks.map Look.e), .lst 90 (a.views.map Src.e)]
def Ask.ok (a : Ask) : Prop := a.table.length ≤ big ∧ a.key.ok ∧ a.hi.ok ∧ okSeen a.s ∧ okSs a.views

set_option maxRecDepth 100000 in
theorem arg_ask {x : PV} (h : ArgGd Try.prog 32 x) : ∃ a : Ask, x = a.pv ∧ a.ok := by
  have e : ArgGd Try.prog 32 x = ∃ xs, x = .agg xs ∧ Gds Try.prog [.str, .int .i64, .int .i64, .str, .int .i64, .int .i64, .str, .sl 43, .sl 47, .sl 55, .sl 90] xs := by kernel_rfl
  rw [e] at h
  obtain ⟨xs, rfl, hg⟩ := h
  obtain ⟨hl, hg⟩ := gds_cells hg
  match xs, hl, hg with
  | [a, b, c, d, f, g, i, j, k, l, m], _, hg =>
    obtain ⟨s, rfl, hs⟩ := gd_str (hg 0 (by decide))
    obtain ⟨v, rfl, rfl, rfl, hv⟩ := val_cells (hg 1 (by decide)) (hg 2 (by decide)) (hg 3 (by decide))
    obtain ⟨w, rfl, rfl, rfl, hw⟩ := val_cells (hg 4 (by decide)) (hg 5 (by decide)) (hg 6 (by decide))
    obtain ⟨rs, rfl, r1, r2⟩ := gd_reads (hg 7 (by decide))
    obtain ⟨gs, rfl, g1, g2⟩ := gd_rngs (hg 8 (by decide))
    obtain ⟨ls, rfl, l1, l2⟩ := gd_looks (hg 9 (by decide))
    obtain ⟨vs, rfl, v1, v2⟩ := gd_srcs (hg 10 (by decide))
    exact ⟨⟨s, v, w, ⟨rs, gs, ls⟩, vs⟩, rfl, hs, hv, hw, ⟨⟨r1, r2⟩, ⟨g1, g2⟩, ⟨l1, l2⟩⟩, v1, v2⟩

set_option maxRecDepth 100000 in
theorem arg_rels {x : PV} (h : ArgGd Try.prog 22 x) : ∃ l : List Rel, x = .lst 40 (l.map Rel.e) ∧ l.length ≤ 4398046511104 ∧ ∀ c ∈ l, c.ok := by
  have e : ArgGd Try.prog 22 x = Gd Try.prog (.sl 40) x := by kernel_rfl
  rw [e] at h
  exact gd_rels h

set_option maxRecDepth 100000 in
theorem arg_int {x : PV} (h : ArgGd Try.prog 3 x) : ∃ n, x = pI n ∧ i64 n := by
  have e : ArgGd Try.prog 3 x = Gd Try.prog (.int .i64) x := by kernel_rfl
  rw [e] at h
  exact gd_int h

set_option maxRecDepth 100000 in
theorem arg_rel {x : PV} (h : ArgGd Try.prog 40 x) : ∃ r : Rel, x = .agg r.e ∧ r.ok := by
  have e : ArgGd Try.prog 40 x = ∃ xs, x = .agg xs ∧ Gds Try.prog [.str, .sl 59] xs := by kernel_rfl
  rw [e] at h
  obtain ⟨xs, rfl, hg⟩ := h
  obtain ⟨hl, hg⟩ := gds_cells hg
  match xs, hl, hg with
  | [a, b], _, hg =>
    obtain ⟨s, rfl, hs⟩ := gd_str (hg 0 (by decide))
    obtain ⟨l, rfl, h1, h2⟩ := gd_recs (hg 1 (by decide))
    exact ⟨⟨s, l⟩, rfl, hs, h1, h2⟩

set_option maxRecDepth 100000 in
theorem arg_rec {x : PV} (h : ArgGd Try.prog 59 x) : ∃ c : Rec, x = .agg c.e ∧ c.ok := by
  have e : ArgGd Try.prog 59 x = ∃ xs, x = .agg xs ∧ Gds Try.prog [.sl 24, .int .i64] xs := by kernel_rfl
  rw [e] at h
  obtain ⟨xs, rfl, hg⟩ := h
  obtain ⟨hl, hg⟩ := gds_cells hg
  match xs, hl, hg with
  | [a, b], _, hg =>
    obtain ⟨r, rfl, hr⟩ := gd_row (hg 0 (by decide))
    obtain ⟨n, rfl, hn⟩ := gd_int (hg 1 (by decide))
    exact ⟨⟨r, n⟩, rfl, hr, hn⟩

end Go.Proofs.Ytfjjionebffekaa

set_option linter.unusedVariables false
set_option linter.unusedSimpArgs false
namespace Go.Proofs.Ytfjjionebffekaa
open Go Go.Pu

theorem tidO_ok {l : List Rec} (h : okL l) (k : Val) : i64 (tidO (getL l k)) := by
  unfold getL
  split
  · cases hf : l.find? (fun c => decide (c.key = k)) with
    | none => exact ⟨by decide, by decide⟩
    | some c => exact (h.2 c (List.mem_of_find?_eq_some hf)).2
  · exact ⟨by decide, by decide⟩

theorem hd_ok {r : List Val} (h : okR r) : (hd r).ok := by
  unfold hd
  split
  · exact h.2 _ (by simp)
  · exact ⟨⟨by decide, by decide⟩, ⟨by decide, by decide⟩, by decide⟩

theorem oneV_ok {l : List Rel} (hl : okRs l) {t : List UInt8} (ht : t.length ≤ big) {k : Val} (hk : k.ok) : (oneV l t k).ok := ⟨ht, hk, tidO_ok (lookR_ok hl t) k⟩

theorem btwV_ok {l : List Rel} (hl : okRs l) {t : List UInt8} (ht : t.length ≤ big) (a b : Val) : ∀ x ∈ btwV l t a b, x.ok := by
  intro x hx
  unfold btwV at hx
  obtain ⟨c, hc, rfl⟩ := List.mem_map.1 hx
  have hc' := (lookR_ok hl t).2 c ((scanL_sub _ a b).subset hc)
  exact ⟨ht, hd_ok hc'.1, hc'.2⟩

theorem vR_one (l : List Rel) (t : List UInt8) (k : Val) : vR l (oneV l t k) = true := decide_eq_true rfl

theorem readsNow_res {l : List Rel} (hl : l.length ≤ 4398046511104 ∧ ∀ c ∈ l, c.ok) {a : Ask} (ha : a.ok) : (m_L20_ReadsNow (.l (l.map Rel.e) :: a.us)).res = some (0, [.b true]) := by
  obtain ⟨ht, hk, hh, hs, hv⟩ := ha
  have s1 := R20_Small_res hl
  have s2 := R20_Few_res hs
  have s3 := R12_Small_res hv
  by_cases c1 : smallRs l = true
  · by_cases c2 : few a.s = true
    · by_cases c3 : smallSs a.views = true
      · have ho := smallRs_ok hl c1
        have r3 := reads_One_res ho a.table a.key
        have r4 := reads_Between_res ho a.table a.key a.hi
        have r5 := R12_Find_res hv.1 a.table
        have e0 : okSeen ⟨[], [], []⟩ := ⟨⟨by simp, by simp⟩, ⟨by simp, by simp⟩, ⟨by simp, by simp⟩⟩
        have r6 := reads_Valid_res ho hv (s := ⟨a.s.reads, [], []⟩) ⟨hs.1, e0.2.1, e0.2.2⟩
        have r7 := reads_Valid_res ho hv (s := ⟨[], a.s.ranges, a.s.looks⟩) ⟨e0.1, hs.2.1, hs.2.2⟩
        have r8 := reads_Valid_res ho hv (s := ⟨[oneV l a.table a.key], [⟨a.table, a.key, a.hi, btwV l a.table a.key a.hi⟩], [⟨a.table, lookV a.views a.table⟩]⟩)
          ⟨⟨by simp, fun c hc => by rw [List.mem_singleton.1 hc]; exact oneV_ok ho ht hk⟩, ⟨by simp, fun c hc => by
            rw [List.mem_singleton.1 hc]; exact ⟨ht, hk, hh, Nat.le_trans (btwV_len ho _ _ _) (by decide), btwV_ok ho ht _ _⟩⟩, ⟨by simp, fun c hc => by rw [List.mem_singleton.1 hc]; exact ⟨ht, lookV_ok hv _⟩⟩⟩
        have r9 := reads_Valid_res ho hv e0
        have r10 := reads_Valid_res ho hv hs
        simp only [List.map_cons, List.map_nil, Read.e, Rng.e, Look.e] at r6 r7 r8 r9
        have v8 : validV l a.views ⟨[oneV l a.table a.key], [⟨a.table, a.key, a.hi, btwV l a.table a.key a.hi⟩], [⟨a.table, lookV a.views a.table⟩]⟩ = true := by
          simp [validV, vR_one, vG, vL]
        have v9 : validV l a.views ⟨[], [], []⟩ = true := rfl
        have v10 : validV l a.views a.s = (validV l a.views ⟨a.s.reads, [], []⟩ && validV l a.views ⟨[], a.s.ranges, a.s.looks⟩) := by
          simp [validV, Bool.and_assoc]
        rw [v8] at r8
        rw [v9] at r9
        rw [v10] at r10
        generalize validV l a.views ⟨a.s.reads, [], []⟩ = b1 at r6 r10
        generalize validV l a.views ⟨[], a.s.ranges, a.s.looks⟩ = b2 at r7 r10
        have e1 : (oneV l a.table a.key).table = a.table := rfl
        have e2 : (oneV l a.table a.key).key = a.key := rfl
        simp only [e1, e2] at r8
        cases b1 <;> simp [m_L20_ReadsNow, Ask.us, s1, s2, s3, c1, c2, c3, r3, r4, r5, r6, r7, r8, r9, r10]
      · have c3' : smallSs a.views = false := by simpa using c3
        simp [m_L20_ReadsNow, Ask.us, s1, s2, s3, c1, c2, c3']
    · have c2' : few a.s = false := by simpa using c2
      simp [m_L20_ReadsNow, Ask.us, s1, s2, c1, c2']
  · have c1' : smallRs l = false := by simpa using c1
    simp [m_L20_ReadsNow, Ask.us, s1, c1']

theorem readsMore_res {l : List Rel} (hl : l.length ≤ 4398046511104 ∧ ∀ c ∈ l, c.ok) {a : Ask} (ha : a.ok) {n : Int} (hn : i64 n) : (m_L20_ReadsMore (.l (l.map Rel.e) :: a.us ++ [.i n])).res = some (0, [.b true]) := by
  obtain ⟨ht, hk, hh, hs, hv⟩ := ha
  have s1 := R20_Small_res hl
  have s2 := R20_Few_res hs
  have s3 := R12_Small_res hv
  by_cases c1 : smallRs l = true
  · by_cases c2 : few a.s = true
    · by_cases c3 : smallSs a.views = true
      · have ho := smallRs_ok hl c1
        have hfew : a.s.reads.length ≤ 60 := by
          simp only [few, Bool.and_eq_true, decide_eq_true_eq] at c2
          exact c2.1.1.2
        have b1 : (0 + (a.s.reads.map Read.e).length) * 56 ≤ 140737488355328 := by rw [List.length_map]; omega
        have b2 : ((a.s.reads.map Read.e).length + 1) * 56 ≤ 140737488355328 := by rw [List.length_map]; omega
        have r3 := reads_One_res ho a.table a.key
        have r5 := reads_Valid_res ho hv hs
        have r4 := reads_Valid_res ho hv (s := ⟨a.s.reads ++ [⟨a.table, a.key, n⟩], a.s.ranges, a.s.looks⟩) ⟨⟨by simp; omega, fun c hc => by
          rcases List.mem_append.1 hc with h | h
          · exact hs.1.2 c h
          · rw [List.mem_singleton.1 h]; exact ⟨ht, hk, hn⟩⟩, hs.2.1, hs.2.2⟩
        simp only [List.map_append, List.map_cons, List.map_nil, Read.e] at r4
        have v4 : validV l a.views ⟨a.s.reads ++ [⟨a.table, a.key, n⟩], a.s.ranges, a.s.looks⟩ = (decide (n = (oneV l a.table a.key).tid) && validV l a.views a.s) := by
          have hvr : vR l ⟨a.table, a.key, n⟩ = decide (n = (oneV l a.table a.key).tid) := by
            unfold vR
            by_cases e : n = (oneV l a.table a.key).tid
            · rw [decide_eq_true e]; exact decide_eq_true (by rw [e]; rfl)
            · rw [decide_eq_false e]; exact decide_eq_false fun h => e (by rw [h])
          simp only [validV, List.all_append, List.all_cons, List.all_nil, Bool.and_true, hvr]
          cases decide (n = (oneV l a.table a.key).tid) <;> simp
        rw [v4] at r4
        by_cases e : n = (oneV l a.table a.key).tid
        · have b1' : a.s.reads.length * 56 ≤ 140737488355328 := by omega
          have b2' : (a.s.reads.length + 1) * 56 ≤ 140737488355328 := by omega
          rw [decide_eq_true e] at r4
          subst e
          simp [m_L20_ReadsMore, Ask.us, s1, s2, s3, c1, c2, c3, b1', b2', r3, r4, r5]
        · have b1' : a.s.reads.length * 56 ≤ 140737488355328 := by omega
          have b2' : (a.s.reads.length + 1) * 56 ≤ 140737488355328 := by omega
          rw [decide_eq_false e] at r4
          simp [m_L20_ReadsMore, Ask.us, s1, s2, s3, c1, c2, c3, b1', b2', r3, r4, r5, e]
      · have c3' : smallSs a.views = false := by simpa using c3
        simp [m_L20_ReadsMore, Ask.us, s1, s2, s3, c1, c2, c3']
    · have c2' : few a.s = false := by simpa using c2
      simp [m_L20_ReadsMore, Ask.us, s1, s2, c1, c2']
  · have c1' : smallRs l = false := by simpa using c1
    simp [m_L20_ReadsMore, Ask.us, s1, c1']

end Go.Proofs.Ytfjjionebffekaa
