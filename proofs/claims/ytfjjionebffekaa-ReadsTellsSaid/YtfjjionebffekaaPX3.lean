/- A table with a record less, or more. -/
import Derived.Test.YtfjjionebffekaaPX2
set_option linter.unusedVariables false
set_option linter.unusedSimpArgs false
namespace Go.Proofs.Ytfjjionebffekaa
open Go Go.Pu

/-! a record goes -/

def notK (k : Val) (c : Rec) : Bool := !decide (c.key = k)

theorem cut_loop (s : List UInt8) {l : List Rec} (hl : okL l) (hm : mayL l = true) (k : Val) :
    lres rd_R16_Cut_34_6 [.i 0, .s (bs s), .l (l.map Rec.e), .i k.k, .i k.n, .s (bs k.s), .s (bs []), .s (bs s), .l []] = some (0, [.s (bs []), .s (bs s), .l ((l.filter (notK k)).map Rec.e)]) := by
  have h0 := hl.1
  have h := loop_acc (rd := rd_R16_Cut_34_6) l.length (fun i => [.i (i : Nat), .s (bs s), .l (l.map Rec.e), .i k.k, .i k.n, .s (bs k.s), .s (bs []), .s (bs s), .l (((l.take i).filter (notK k)).map Rec.e)]) (some (0, [.s (bs []), .s (bs s), .l ((l.filter (notK k)).map Rec.e)]))
    (lres_stop (by simp [rd_R16_Cut_34_6])) (by
    intro i hi
    have hr := mayL_row hm hi
    have hg := hd_re hr
    have hv := val_ext (v := hd l[i].row) (w := k)
    have hfl : (((l.take i).filter (notK k)).length + 1) * 32 ≤ 140737488355328 := by
      have := List.length_filter_le (notK k) (l.take i)
      simp only [List.length_take] at this
      omega
    rw [take_succ hi, List.filter_append, List.map_append]
    generalize (l.take i).filter (notK k) = t at hfl ⊢
    by_cases he : hd l[i].row = k
    · rw [he] at hg
      simp [rd_R16_Cut_34_6, hi, Rec.e, hr, hg, Val.e, he, w64_succ (i := i) (by omega), notK, Rec.key]
    · have hne := fun h => he (hv.1 h)
      have hne' : ¬ ((hd l[i].row).k = k.k ∧ (hd l[i].row).n = k.n ∧ (hd l[i].row).s = k.s) := hne
      by_cases e1 : (hd l[i].row).k = k.k
      · by_cases e2 : (hd l[i].row).n = k.n
        · have e3 : ¬ (hd l[i].row).s = k.s := fun e3 => hne ⟨e1, e2, e3⟩
          simp [rd_R16_Cut_34_6, hi, Rec.e, hr, hg, Val.e, he, e3, hfl, w64_succ (i := i) (by omega), notK, Rec.key]
        · simp [rd_R16_Cut_34_6, hi, Rec.e, hr, hg, Val.e, he, e2, hfl, w64_succ (i := i) (by omega), notK, Rec.key]
      · simp [rd_R16_Cut_34_6, hi, Rec.e, hr, hg, Val.e, he, e1, hfl, w64_succ (i := i) (by omega), notK, Rec.key])
  simp only [Int.natCast_zero, List.take_zero, List.filter_nil, List.map_nil] at h
  exact h

def cutT (r : Rel) (k : Val) : Option Rel := match getL r.recs k with | some _ => some ⟨r.name, r.recs.filter (notK k)⟩ | none => none
def nameO (o : Option Rel) : List UInt8 := match o with | some r => r.name | none => []
def recsO (o : Option Rel) : List Rec := match o with | some r => r.recs | none => []

theorem getL_may {l : List Rec} {k : Val} {c : Rec} (h : getL l k = some c) : mayL l = true := by
  unfold getL at h
  split at h
  · assumption
  · cases h

theorem R16_Cut_res {r : Rel} (hr : r.ok) (k : Val) : (m_R16_Cut [.s (bs r.name), .l (r.recs.map Rec.e), .i k.k, .i k.n, .s (bs k.s)]).res =
    some (0, [.s (bs (nameO (cutT r k))), .b (cutT r k).isSome, .l ((recsO (cutT r k)).map Rec.e)]) := by
  have hg := R16_Get_res r.name (l := r.recs) hr.2 k
  cases h : getL r.recs k with
  | none =>
    rw [h] at hg
    simp [m_R16_Cut, hg, cutT, h, nameO, recsO, emp_bs]
  | some c =>
    rw [h] at hg
    have hc := cut_loop r.name (l := r.recs) hr.2 (getL_may h) k
    simp [m_R16_Cut, hg, cutT, h, nameO, recsO, emp_bs, hc]

/-! of a table that may be, some records are one that may be -/

theorem mayL_of {l : List Rec} (h1 : ∀ c ∈ l, c.right = true) (h2 : l.Pairwise (fun a b => cmpV a.key b.key < 0)) : mayL l = true := by
  rw [mayL_iff]
  intro i hi
  rw [pMay_at hi]
  simp only [Bool.and_eq_true, h1 _ (List.getElem_mem hi), true_and, Bool.or_eq_true, decide_eq_true_eq]
  by_cases h : i = 0
  · exact .inl (by simp [h])
  · exact .inr (List.pairwise_iff_getElem.1 h2 (i - 1) i (by omega) hi (by omega))

theorem mayL_pair {l : List Rec} (h : mayL l = true) : l.Pairwise (fun a b => cmpV a.key b.key < 0) :=
  List.pairwise_iff_getElem.2 fun i j hi hj hij => mayL_lt h hj hij

theorem mayL_all {l : List Rec} (h : mayL l = true) : ∀ c ∈ l, c.right = true := fun c hc => by
  obtain ⟨i, hi, rfl⟩ := List.mem_iff_getElem.1 hc
  exact mayL_right h hi

theorem mayL_filter {l : List Rec} (h : mayL l = true) (q : Rec → Bool) : mayL (l.filter q) = true :=
  mayL_of (fun c hc => mayL_all h c (List.mem_filter.1 hc).1) ((mayL_pair h).filter q)

theorem mem_key {l : List Rec} (h : mayL l = true) {c d : Rec} (hc : c ∈ l) (hd : d ∈ l) (he : c.key = d.key) : c = d := by
  obtain ⟨i, hi, rfl⟩ := List.mem_iff_getElem.1 hc
  obtain ⟨j, hj, rfl⟩ := List.mem_iff_getElem.1 hd
  rcases Nat.lt_trichotomy i j with h1 | h1 | h1
  · have := mayL_lt h hj h1; rw [he, cV.self] at this; omega
  · subst h1; rfl
  · have := mayL_lt h hi h1; rw [he, cV.self] at this; omega

theorem getL_iff {l : List Rec} (h : mayL l = true) {k : Val} {c : Rec} : getL l k = some c ↔ c ∈ l ∧ c.key = k := by
  unfold getL
  rw [if_pos h]
  constructor
  · intro hf
    have := List.find?_some hf
    exact ⟨List.mem_of_find?_eq_some hf, by simpa using this⟩
  · rintro ⟨hc, rfl⟩
    cases hf : l.find? (fun d => decide (d.key = c.key)) with
    | none =>
      rw [List.find?_eq_none] at hf
      have := hf c hc
      simp at this
    | some d =>
      have h1 := List.find?_some hf
      have h2 := List.mem_of_find?_eq_some hf
      rw [mem_key h h2 hc (by simpa using h1)]

theorem getL_none {l : List Rec} (h : mayL l = true) {k : Val} : getL l k = none ↔ ∀ c ∈ l, c.key ≠ k := by
  unfold getL
  rw [if_pos h, List.find?_eq_none]
  simp

/-! one table alone -/

theorem lookR_one (r : Rel) : lookR [r] r.name = r := by simp [lookR]

theorem lookR_one' (r s : Rel) (h : s.name = r.name) : lookR [s] r.name = s := by simp [lookR, h]

theorem scanL_empty {l : List Rec} {a b : Val} (hab : 0 ≤ cmpV a b) : scanL l a b = [] := by
  unfold scanL
  split
  · rw [List.filter_eq_nil_iff]
    intro c _ hb
    simp only [btw, Bool.and_eq_true, decide_eq_true_eq] at hb
    have h1 := cV.anti c.key a
    have h2 := cV.lt_of_le_of_lt (show cmpV a c.key ≤ 0 by omega) hb.2
    omega
  · rfl

theorem R20_SameReads_res {a b : List Read} (h0 : a.length ≤ 4398046511104) : (m_R20_SameReads [.l (a.map Read.e), .l (b.map Read.e)]).res = some (0, [.b (decide (a = b))]) := by
  by_cases hl : a.length = b.length
  · have h := loop_eq hl (rd := rd_R20_SameReads_35_4) (fun i => [.l (a.map Read.e), .l (b.map Read.e), .i (i : Nat)]) 0 1 [.b false] [] (by simp [rd_R20_SameReads_35_4]) (by
      intro i h1 h2
      have hx := read_ext (x := a[i]) (y := b[i])
      by_cases he : a[i] = b[i]
      · simp [rd_R20_SameReads_35_4, el_at _ h1, el_at _ h2, h1, h2, Read.e, w64_succ (i := i) (by omega), he]
      · have hx' := fun h => he (hx.1 h)
        simp [rd_R20_SameReads_35_4, el_at _ h1, el_at _ h2, h1, h2, Read.e, he]
        intro a1 a2 a3 a4 a5
        exact hx' ⟨a1, ⟨a2, a3, a4⟩, a5⟩)
    simp only [Int.natCast_zero] at h
    by_cases he : a = b
    · subst he
      simp at h
      simp [m_R20_SameReads, h]
    · rw [if_neg he] at h
      simp [m_R20_SameReads, h, hl, he]
  · have hl' : ¬ (a.length : Int) = b.length := by omega
    have he : a ≠ b := fun e => hl (by rw [e])
    simp [m_R20_SameReads, hl', he]

/-- what goes lies ahead of all that lie between its key and another one -/
theorem scan_cut {l : List Rec} (hm : mayL l = true) {c : Rec} (hc : c ∈ l) {b : Val} (hb : cmpV c.key b < 0) : scanL l c.key b = c :: scanL (l.filter (notK c.key)) c.key b := by
  have hm2 := mayL_filter hm (notK c.key)
  have hp := mayL_pair hm
  unfold scanL
  rw [if_pos hm, if_pos hm2]
  obtain ⟨s, t, rfl⟩ := List.append_of_mem hc
  obtain ⟨_, p2, p3⟩ := List.pairwise_append.1 hp
  obtain ⟨p4, _⟩ := List.pairwise_cons.1 p2
  have hs : ∀ d ∈ s, cmpV d.key c.key < 0 := fun d hd => p3 d hd c (by simp)
  have e1 : s.filter (btw c.key b) = [] := by
    rw [List.filter_eq_nil_iff]
    intro d hd h
    simp only [btw, Bool.and_eq_true, decide_eq_true_eq] at h
    have := hs d hd
    omega
  have e2 : s.filter (notK c.key) = s := by
    rw [List.filter_eq_self]
    intro d hd
    simp only [notK, Bool.not_eq_true', decide_eq_false_iff_not]
    intro h
    have := hs d hd
    rw [h, cV.self] at this; omega
  have e3 : t.filter (notK c.key) = t := by
    rw [List.filter_eq_self]
    intro d hd
    simp only [notK, Bool.not_eq_true', decide_eq_false_iff_not]
    intro h
    have := p4 d hd
    rw [h, cV.self] at this; omega
  have e4 : btw c.key b c = true := by simp [btw, cV.self, hb]
  have e5 : notK c.key c = false := by simp [notK]
  simp only [List.filter_append, List.filter_cons, e1, e2, e3, e4, e5, if_true, Bool.false_eq_true, if_false, List.nil_append]

theorem okRs_one {r : Rel} (hr : r.ok) (h : r.recs.length ≤ 60) : okRs [r] := ⟨by simp, fun c hc => by rw [List.mem_singleton.1 hc]; exact ⟨hr, h⟩⟩

theorem readsCut_res {r : Rel} (hr : r.ok) {a : Ask} (ha : a.ok) : (m_L20_ReadsCut ([.s (bs r.name), .l (r.recs.map Rec.e)] ++ a.us)).res = some (0, [.b true]) := by
  obtain ⟨ht, hk, hh, hs, hv⟩ := ha
  have s1 := R16_Small_res hr
  have s2 := R16_May_res r.name r.recs hr.2
  have s3 := R16_Cut_res hr a.key
  by_cases c1 : smallT r = true
  · by_cases c2 : r.recs.length ≤ 20
    · have c2' : ¬ (20 : Int) < (r.recs.length : Int) := by omega
      by_cases c3 : mayL r.recs = true
      · cases hg : getL r.recs a.key with
        | none => simp [m_L20_ReadsCut, Ask.us, s1, s2, s3, c1, c2', c3, cutT, hg]
        | some c =>
          obtain ⟨hc, hck⟩ := (getL_iff c3).1 hg
          generalize hl' : r.recs.filter (notK a.key) = l'
          have hsub : l'.Sublist r.recs := by rw [← hl']; exact List.filter_sublist
          have ho : okRs [r] := okRs_one hr (by omega)
          have hr' : (⟨r.name, l'⟩ : Rel).ok := ⟨hr.1, okL_sub hr.2 hsub⟩
          have ho' : okRs [⟨r.name, l'⟩] := okRs_one hr' (Nat.le_trans hsub.length_le (by omega))
          have r3 := reads_Between_res ho r.name a.key a.hi
          have r4 := reads_Between_res ho' r.name a.key a.hi
          have r5 := reads_One_res ho' r.name a.key
          have r6 := R01_Compare_res a.key a.hi
          simp only [List.map_cons, List.map_nil, Rel.e] at r3 r4 r5
          have hm' : mayL l' = true := by rw [← hl']; exact mayL_filter c3 _
          have hgn : getL l' a.key = none := by
            rw [getL_none hm', ← hl']
            intro d hd e
            have := (List.mem_filter.1 hd).2
            simp [notK, e] at this
          have h5 : (oneV [⟨r.name, l'⟩] r.name a.key).tid = 0 := by
            simp only [oneV, lookR_one' r ⟨r.name, l'⟩ rfl, hgn, tidO]
          have h3 : btwV [r] r.name a.key a.hi = (scanL r.recs a.key a.hi).map (toRead r.name) := by simp only [btwV, lookR_one]
          have h4 : btwV [⟨r.name, l'⟩] r.name a.key a.hi = (scanL l' a.key a.hi).map (toRead r.name) := by simp only [btwV, lookR_one' r ⟨r.name, l'⟩ rfl]
          have hcut : cutT r a.key = some ⟨r.name, l'⟩ := by simp [cutT, hg, hl']
          rw [hcut] at s3
          rw [h5] at r5
          simp only [nameO, recsO, Option.isSome_some] at s3
          by_cases c4 : cmpV a.key a.hi < 0
          · have c4' : ¬ 0 ≤ cmpV a.key a.hi := by omega
            have hsc : scanL r.recs a.key a.hi = c :: scanL l' a.key a.hi := by
              rw [← hl', ← hck]
              exact scan_cut c3 hc (by rw [hck]; exact c4)
            rw [hsc] at h3
            rw [h3] at r3
            rw [h4] at r4
            generalize hX : (scanL l' a.key a.hi).map (toRead r.name) = X at r3 r4
            have hXl : X.length ≤ 60 := by
              have h1 := (scanL_sub r.recs a.key a.hi).length_le
              rw [hsc, List.length_cons] at h1
              rw [← hX, List.length_map]; omega
            have hsame := R20_SameReads_res (a := X) (b := X) (by omega)
            simp only [List.map_cons, hX] at r3
            simp only [decide_true] at hsame
            have z1 : (0 : Int) < (X.length : Int) + 1 := by omega
            have z2 : (1 : Int) ≤ (X.length : Int) + 1 := by omega
            have z3 : ((X.length : Int) + 1).toNat - 1 = X.length := by omega
            have z4 : 1 + X.length ≤ X.length + 1 := by omega
            have z5 : List.take X.length (X.map Read.e) = X.map Read.e := List.take_of_length_le (by simp)
            simp [m_L20_ReadsCut, Ask.us, s1, s2, s3, c1, c2', c3, r3, r4, r5, r6, c4', ln, z1, z2, z3, z4, z5, hsame]
          · have c4' : 0 ≤ cmpV a.key a.hi := by omega
            rw [scanL_empty c4'] at h3 h4
            rw [h3] at r3
            rw [h4] at r4
            simp [m_L20_ReadsCut, Ask.us, s1, s2, s3, c1, c2', c3, r3, r4, r5, r6, c4', w64_eq]
      · have c3' : mayL r.recs = false := by simpa using c3
        simp [m_L20_ReadsCut, Ask.us, s1, s2, c1, c2', c3']
    · have c2' : (20 : Int) < (r.recs.length : Int) := by omega
      simp [m_L20_ReadsCut, Ask.us, s1, c1, c2']
  · have c1' : smallT r = false := by simpa using c1
    simp [m_L20_ReadsCut, Ask.us, s1, c1']

end Go.Proofs.Ytfjjionebffekaa

set_option linter.unusedVariables false
set_option linter.unusedSimpArgs false
namespace Go.Proofs.Ytfjjionebffekaa
open Go Go.Pu

def ltK (k : Val) (d : Rec) : Bool := decide (cmpV d.key k < 0)
def gtK (k : Val) (d : Rec) : Bool := decide (0 < cmpV d.key k)
def geK (k : Val) (d : Rec) : Bool := decide (0 ≤ cmpV d.key k)
def eqK (k : Val) (d : Rec) : Bool := decide (d.key = k)

/-- what was laid so far -/
def acc (c : Rec) (t : List Rec) : List Rec := t.filter (ltK c.key) ++ (if t.any (geK c.key) = true then [c] else []) ++ t.filter (gtK c.key)
def putL (l : List Rec) (c : Rec) : List Rec := l.filter (ltK c.key) ++ c :: l.filter (gtK c.key)

theorem acc_len (c : Rec) (t : List Rec) : (acc c t).length ≤ t.length + 1 := by
  have h : ∀ t : List Rec, (t.filter (ltK c.key)).length + (t.filter (gtK c.key)).length ≤ t.length := by
    intro t
    induction t with
    | nil => simp
    | cons x t ih =>
      simp only [List.filter_cons]
      by_cases h1 : cmpV x.key c.key < 0
      · have h2 : ¬ 0 < cmpV x.key c.key := by omega
        simp [ltK, gtK, h1, h2] at ih ⊢; omega
      · by_cases h2 : 0 < cmpV x.key c.key <;> simp [ltK, gtK, h1, h2] at ih ⊢ <;> omega
  have := h t
  simp only [acc, List.length_append]
  split <;> simp <;> omega

theorem acc_lt {c : Rec} {t : List Rec} (h : ∀ d ∈ t, cmpV d.key c.key < 0) : acc c t = t ∧ t.any (geK c.key) = false := by
  have e1 : t.filter (ltK c.key) = t := by rw [List.filter_eq_self]; intro d hd; simp [ltK, h d hd]
  have e2 : t.filter (gtK c.key) = [] := by rw [List.filter_eq_nil_iff]; intro d hd; have := h d hd; simp [gtK]; omega
  have e3 : t.any (geK c.key) = false := by
    rw [List.any_eq_false]; intro d hd; have := h d hd; simp [geK]; omega
  exact ⟨by simp [acc, e1, e2, e3], e3⟩

/-- what is laid at a record of a table that rises -/
theorem acc_step {c : Rec} {t : List Rec} {x : Rec} (h : ∀ d ∈ t, cmpV d.key x.key < 0) : acc c (t ++ [x]) =
    (if 0 ≤ cmpV x.key c.key ∧ t.any (geK c.key) = false then acc c t ++ [c] else acc c t) ++ (if cmpV x.key c.key = 0 then [] else [x]) ∧
    (t ++ [x]).any (geK c.key) = (t.any (geK c.key) || geK c.key x) := by
  refine ⟨?_, by simp⟩
  by_cases h1 : cmpV x.key c.key < 0
  · have hlt : ∀ d ∈ t, cmpV d.key c.key < 0 := fun d hd => cV.lt_trans (h d hd) h1
    have hlt2 : ∀ d ∈ t ++ [x], cmpV d.key c.key < 0 := fun d hd => by
      rcases List.mem_append.1 hd with g | g
      · exact hlt d g
      · rw [List.mem_singleton.1 g]; exact h1
    rw [(acc_lt hlt2).1, (acc_lt hlt).1, if_neg (by omega), if_neg (by omega)]
  · by_cases h2 : cmpV x.key c.key = 0
    · have hlt : ∀ d ∈ t, cmpV d.key c.key < 0 := fun d hd => by
        have := h d hd
        rwa [(cV.zero _ _).1 h2] at this
      obtain ⟨e1, e2⟩ := acc_lt hlt
      have f1 : t.filter (ltK c.key) = t := by rw [List.filter_eq_self]; intro d hd; simp [ltK, hlt d hd]
      have f2 : t.filter (gtK c.key) = [] := by rw [List.filter_eq_nil_iff]; intro d hd; have := hlt d hd; simp [gtK]; omega
      rw [if_pos ⟨by omega, e2⟩, if_pos h2, e1]
      simp [acc, f1, f2, e2, ltK, gtK, geK, h2]
    · have h3 : 0 < cmpV x.key c.key := by omega
      rw [if_neg h2]
      by_cases hany : t.any (geK c.key) = true
      · rw [if_neg (by rw [hany]; simp)]
        simp [acc, hany, ltK, gtK, geK, h1, h3]
      · have hany' : t.any (geK c.key) = false := by simpa using hany
        have hlt : ∀ d ∈ t, cmpV d.key c.key < 0 := fun d hd => by
          have := List.any_eq_false.1 hany' d hd
          simp [geK] at this; omega
        have f2 : t.filter (gtK c.key) = [] := by rw [List.filter_eq_nil_iff]; intro d hd; have := hlt d hd; simp [gtK]; omega
        rw [if_pos ⟨by omega, hany'⟩]
        have h4 : 0 ≤ cmpV x.key c.key := by omega
        simp [acc, hany', f2, ltK, gtK, geK, h1, h3, h4]

theorem put_bytes {n m : Nat} (h : n ≤ m + 1) (hm : m ≤ 60) : (n + 1) * 32 ≤ 140737488355328 ∧ (n + 1 + 1) * 32 ≤ 140737488355328 := by omega

set_option maxHeartbeats 4000000 in
theorem put_loop (s : List UInt8) {l : List Rec} (hl : okL l) (hfew : l.length ≤ 60) (hm : mayL l = true) {c : Rec} (hc : c.ok) (hr : c.right = true) :
    lres rd_R16_Put_31_7 [.l (re c.row), .b false, .i 0, .s (bs s), .l (l.map Rec.e), .s (bs []), .l (re c.row), .i c.tid, .s (bs s), .l []] =
      some (0, [.b (l.any (geK c.key)), .s (bs []), .l (re c.row), .i c.tid, .s (bs s), .l ((acc c l).map Rec.e)]) := by
  have h0 := hl.1
  have hrow := right_len hr
  have hgc := hd_re hrow
  have h := loop_acc (rd := rd_R16_Put_31_7) l.length (fun i => [.l (re c.row), .b ((l.take i).any (geK c.key)), .i (i : Nat), .s (bs s), .l (l.map Rec.e), .s (bs []), .l (re c.row), .i c.tid, .s (bs s), .l ((acc c (l.take i)).map Rec.e)])
    (some (0, [.b (l.any (geK c.key)), .s (bs []), .l (re c.row), .i c.tid, .s (bs s), .l ((acc c l).map Rec.e)]))
    (lres_stop (by simp [rd_R16_Put_31_7])) (by
    intro i hi
    have hr1 := mayL_row hm hi
    have hg := hd_re hr1
    have hcm := R01_Compare_res (hd l[i].row) (hd c.row)
    have hlt : ∀ d ∈ l.take i, cmpV d.key (l[i]).key < 0 := fun d hd => by
      obtain ⟨j, hj, rfl⟩ := List.mem_iff_getElem.1 hd
      rw [List.length_take] at hj
      rw [List.getElem_take]
      exact mayL_lt hm hi (by omega)
    have hlen := acc_len c (l.take i)
    rw [List.length_take] at hlen
    obtain ⟨b1, b2⟩ := put_bytes hlen (Nat.le_trans (Nat.min_le_right _ _) hfew)
    obtain ⟨e1, e2⟩ := acc_step (c := c) hlt
    rw [take_succ hi, e1, e2]
    generalize acc c (l.take i) = t at b1 b2 ⊢
    generalize (l.take i).any (geK c.key) = w
    have hw := w64_succ (i := i) (by omega)
    by_cases c1 : 0 ≤ cmpV (hd l[i].row) (hd c.row)
    · by_cases c2 : cmpV (hd l[i].row) (hd c.row) = 0
      · cases w <;> simp [rd_R16_Put_31_7, hi, Rec.e, hr1, hrow, hg, hgc, Val.e, hcm, c1, c2, hw, b1, b2, Rec.key, geK]
      · cases w <;> simp [rd_R16_Put_31_7, hi, Rec.e, hr1, hrow, hg, hgc, Val.e, hcm, c1, c2, hw, b1, b2, Rec.key, geK]
    · have c2 : ¬ cmpV (hd l[i].row) (hd c.row) = 0 := by omega
      cases w <;> simp [rd_R16_Put_31_7, hi, Rec.e, hr1, hrow, hg, hgc, Val.e, hcm, c1, c2, hw, b1, b2, Rec.key, geK])
  simp only [Int.natCast_zero, List.take_zero] at h
  exact h

theorem acc_put {l : List Rec} (hm : mayL l = true) (c : Rec) : acc c l ++ (if l.any (geK c.key) = true then [] else [c]) = putL l c := by
  by_cases h : l.any (geK c.key) = true
  · simp [acc, putL, h]
  · have h' : l.any (geK c.key) = false := by simpa using h
    have hlt : ∀ d ∈ l, cmpV d.key c.key < 0 := fun d hd => by
      have := List.any_eq_false.1 h' d hd
      simp [geK] at this; omega
    have f1 : l.filter (ltK c.key) = l := by rw [List.filter_eq_self]; intro d hd; simp [ltK, hlt d hd]
    have f2 : l.filter (gtK c.key) = [] := by rw [List.filter_eq_nil_iff]; intro d hd; have := hlt d hd; simp [gtK]; omega
    rw [(acc_lt hlt).1, h']
    simp [putL, f1, f2]

theorem R16_Put_res {r : Rel} (hr : r.ok) (hfew : r.recs.length ≤ 60) (hm : mayL r.recs = true) {c : Rec} (hc : c.ok) (hright : c.right = true) :
    (m_R16_Put [.s (bs r.name), .l (r.recs.map Rec.e), .l (re c.row), .i c.tid]).res = some (0, [.s (bs r.name), .l ((putL r.recs c).map Rec.e)]) := by
  have h1 := R16_May_res r.name r.recs hr.2
  have h2 := R16_Right_res c hc
  have h3 := put_loop r.name hr.2 hfew hm hc hright
  have h4 := acc_put hm c
  have hlen := acc_len c r.recs
  have hl := hr.2.1
  have b1 := (put_bytes hlen hfew).1
  rw [← h4]
  by_cases h : r.recs.any (geK c.key) = true
  · rw [h] at h3
    simp [m_R16_Put, h1, hm, h2, hright, emp_bs, h3, h]
  · have h' : r.recs.any (geK c.key) = false := by simpa using h
    rw [h'] at h3
    simp [m_R16_Put, h1, hm, h2, hright, emp_bs, h3, h', b1, Rec.e]

/-! what a table with a record more is -/

theorem sorted_parts {l : List Rec} (hp : l.Pairwise (fun a b => cmpV a.key b.key < 0)) (k : Val) : l = l.filter (ltK k) ++ (l.filter (eqK k) ++ l.filter (gtK k)) := by
  induction l with
  | nil => rfl
  | cons x t ih =>
    obtain ⟨p1, p2⟩ := List.pairwise_cons.1 hp
    have ih := ih p2
    by_cases h1 : cmpV x.key k < 0
    · have a1 : ltK k x = true := decide_eq_true h1
      have a2 : eqK k x = false := decide_eq_false fun e => by rw [e, cV.self] at h1; omega
      have a3 : gtK k x = false := decide_eq_false (by omega)
      simp only [List.filter_cons, a1, a2, a3, if_true, Bool.false_eq_true, if_false, List.cons_append]
      rw [← ih]
    · have hgt : ∀ d ∈ t, 0 < cmpV d.key k := fun d hd => by
        have h2 := p1 d hd
        have h3 := cV.anti d.key x.key
        have h4 := cV.anti d.key k
        have h5 := cV.anti x.key k
        have h6 := cV.lt_of_le_of_lt (show cmpV k x.key ≤ 0 by omega) h2
        omega
      have f1 : t.filter (ltK k) = [] := by rw [List.filter_eq_nil_iff]; intro d hd; have := hgt d hd; simp [ltK]; omega
      have f2 : t.filter (eqK k) = [] := by
        rw [List.filter_eq_nil_iff]; intro d hd h
        have := hgt d hd
        simp only [eqK, decide_eq_true_eq] at h
        rw [h, cV.self] at this; omega
      have f3 : t.filter (gtK k) = t := by rw [List.filter_eq_self]; intro d hd; simp [gtK, hgt d hd]
      have a1 : ltK k x = false := decide_eq_false h1
      by_cases h2 : x.key = k
      · have a2 : eqK k x = true := decide_eq_true h2
        have a3 : gtK k x = false := decide_eq_false (by rw [h2, cV.self]; omega)
        simp [List.filter_cons, a1, a2, a3, f1, f2, f3]
      · have a2 : eqK k x = false := decide_eq_false h2
        have a3 : gtK k x = true := decide_eq_true (by
          have : cmpV x.key k ≠ 0 := fun e => h2 ((cV.zero _ _).1 e)
          omega)
        simp [List.filter_cons, a1, a2, a3, f1, f2, f3]

theorem putL_may {l : List Rec} (hm : mayL l = true) {c : Rec} (hr : c.right = true) : mayL (putL l c) = true := by
  refine mayL_of (fun d hd => ?_) ?_
  · rcases List.mem_append.1 hd with h | h
    · exact mayL_all hm d (List.mem_filter.1 h).1
    · rcases List.mem_cons.1 h with rfl | h
      · exact hr
      · exact mayL_all hm d (List.mem_filter.1 h).1
  · have hp := mayL_pair hm
    unfold putL
    rw [List.pairwise_append]
    have hgt : ∀ d ∈ l.filter (gtK c.key), cmpV c.key d.key < 0 := fun d hd => by
      have := (List.mem_filter.1 hd).2
      simp only [gtK, decide_eq_true_eq] at this
      have h2 := cV.anti d.key c.key
      omega
    have hlt : ∀ d ∈ l.filter (ltK c.key), cmpV d.key c.key < 0 := fun d hd => by
      have := (List.mem_filter.1 hd).2
      simpa only [ltK, decide_eq_true_eq] using this
    refine ⟨hp.filter _, List.pairwise_cons.2 ⟨hgt, hp.filter _⟩, fun a ha b hb => ?_⟩
    rcases List.mem_cons.1 hb with rfl | hb
    · exact hlt a ha
    · exact cV.lt_trans (hlt a ha) (hgt b hb)

theorem getL_put {l : List Rec} (hm : mayL l = true) {c : Rec} (hr : c.right = true) (k : Val) : getL (putL l c) k = if k = c.key then some c else getL l k := by
  have hm2 := putL_may hm hr
  split
  · rename_i h
    subst h
    exact (getL_iff hm2).2 ⟨by simp [putL], rfl⟩
  · rename_i hk
    have hmem : ∀ d : Rec, d.key = k → (d ∈ putL l c ↔ d ∈ l) := fun d hd => by
      have hne : cmpV d.key c.key ≠ 0 := fun e => hk (by rw [← hd]; exact (cV.zero _ _).1 e)
      have hdc : d ≠ c := fun e => hk (by rw [← hd, e])
      simp only [putL, List.mem_append, List.mem_filter, List.mem_cons, hdc, false_or, ltK, gtK, decide_eq_true_eq]
      constructor
      · rintro (⟨h, _⟩ | ⟨h, _⟩) <;> exact h
      · intro h
        by_cases h1 : cmpV d.key c.key < 0
        · exact .inl ⟨h, h1⟩
        · exact .inr ⟨h, by omega⟩
    cases hg : getL l k with
    | none =>
      rw [getL_none hm] at hg
      rw [getL_none hm2]
      intro d hd e
      exact hg d ((hmem d e).1 hd) e
    | some d =>
      rw [getL_iff hm] at hg
      rw [getL_iff hm2]
      exact ⟨(hmem d hg.2).2 hg.1, hg.2⟩

/-- the records of one key -/
theorem eqK_of {l : List Rec} (hm : mayL l = true) (k : Val) : l.filter (eqK k) = (getL l k).toList := by
  have hp := (mayL_pair hm).filter (eqK k)
  have hk : ∀ d ∈ l.filter (eqK k), d.key = k := fun d hd => by simpa [eqK] using (List.mem_filter.1 hd).2
  cases hg : getL l k with
  | none =>
    rw [getL_none hm] at hg
    rw [List.filter_eq_nil_iff.2 fun d hd => by simpa [eqK] using hg d hd]; rfl
  | some d =>
    rw [getL_iff hm] at hg
    have hd : d ∈ l.filter (eqK k) := List.mem_filter.2 ⟨hg.1, by simpa [eqK] using hg.2⟩
    generalize l.filter (eqK k) = m at hp hk hd
    match m, hp, hk, hd with
    | [x], _, _, hd => rw [List.mem_singleton.1 hd]; rfl
    | x :: y :: m, hp, hk, _ =>
      have h1 := (List.pairwise_cons.1 hp).1 y (by simp)
      rw [hk x (by simp), hk y (by simp), cV.self] at h1; omega

set_option maxHeartbeats 8000000 in
theorem readsPhantoms_res {r : Rel} (hr : r.ok) {c : Rec} (hc : c.ok) {a : Ask} (ha : a.ok) : (m_L20_ReadsPhantoms ([.s (bs r.name), .l (r.recs.map Rec.e), .l (re c.row), .i c.tid] ++ a.us)).res = some (0, [.b true]) := by
  obtain ⟨ht, hk, hh, hs, hv⟩ := ha
  have s1 := R16_Small_res hr
  have s2 := R16_May_res r.name r.recs hr.2
  have s3 := R16_Right_res c hc
  by_cases c1 : smallT r = true
  · by_cases c2 : r.recs.length ≤ 20
    · have c2' : ¬ (20 : Int) < (r.recs.length : Int) := by omega
      by_cases c3 : mayL r.recs = true
      · by_cases c4 : c.right = true
        · by_cases c5 : c.tid < 1
          · simp [m_L20_ReadsPhantoms, Ask.us, s1, s2, s3, c1, c2', c3, c4, c5]
          · by_cases c6 : (40 : Int) < c.row.length
            · simp [m_L20_ReadsPhantoms, Ask.us, s1, s2, s3, c1, c2', c3, c4, c5, c6]
            · have hrow := right_len c4
              have hg := hd_re hrow
              have s4 := R16_Put_res hr (by omega) c3 hc c4
              have s5 := R16_Get_res r.name (l := r.recs) hr.2 (hd c.row)
              have s6 := R01_Compare_res a.key (hd c.row)
              have s7 := R01_Compare_res (hd c.row) a.hi
              have ho : okRs [r] := okRs_one hr (by omega)
              have hpl : (putL r.recs c).length ≤ 21 := by
                have := acc_put c3 c
                have h1 := acc_len c r.recs
                have h2 : (putL r.recs c).length ≤ r.recs.length + 1 := by
                  simp only [putL, List.length_append, List.length_cons]
                  have hsp := congrArg List.length (sorted_parts (mayL_pair c3) c.key)
                  simp only [List.length_append] at hsp
                  omega
                omega
              have hput : okL (putL r.recs c) := ⟨by omega, fun d hd => by
                rcases List.mem_append.1 hd with h | h
                · exact hr.2.2 d (List.mem_filter.1 h).1
                · rcases List.mem_cons.1 h with rfl | h
                  · exact hc
                  · exact hr.2.2 d (List.mem_filter.1 h).1⟩
              have ho' : okRs [⟨r.name, putL r.recs c⟩] := okRs_one ⟨hr.1, hput⟩ (by show (putL r.recs c).length ≤ 60; omega)
              have s8 := reads_One_res ho r.name a.key
              have s9 := reads_Between_res ho r.name a.key a.hi
              have e0 : okSeen ⟨[], [], []⟩ := ⟨⟨by simp, by simp⟩, ⟨by simp, by simp⟩, ⟨by simp, by simp⟩⟩
              have hvs : okSs [] := ⟨by simp, by simp⟩
              have s10 := reads_Valid_res ho' hvs (s := ⟨[oneV [r] r.name a.key], [], []⟩) ⟨⟨by simp, fun d hd => by rw [List.mem_singleton.1 hd]; exact oneV_ok ho hr.1 hk⟩, e0.2.1, e0.2.2⟩
              have s11 := reads_Valid_res ho' hvs (s := ⟨[], [⟨r.name, a.key, a.hi, btwV [r] r.name a.key a.hi⟩], []⟩) ⟨e0.1, ⟨by simp, fun d hd => by
                rw [List.mem_singleton.1 hd]; exact ⟨hr.1, hk, hh, Nat.le_trans (btwV_len ho _ _ _) (by decide), btwV_ok ho hr.1 _ _⟩⟩, e0.2.2⟩
              simp only [List.map_cons, List.map_nil, Rel.e, Read.e, Rng.e] at s8 s9 s10 s11
              have k1 : (oneV [r] r.name a.key).tid = tidO (getL r.recs a.key) := by simp only [oneV, lookR_one]
              have k2 : (oneV [⟨r.name, putL r.recs c⟩] r.name a.key).tid = tidO (getL (putL r.recs c) a.key) := by simp only [oneV, lookR_one' r ⟨r.name, putL r.recs c⟩ rfl]
              have hkey : hd c.row = c.key := rfl
              simp only [hkey] at s5 s6 s7 hg
              by_cases c7 : (getL r.recs c.key).isSome = true ∧ tidO (getL r.recs c.key) = c.tid
              · simp [m_L20_ReadsPhantoms, Ask.us, s1, s2, s3, c1, c2', c3, c4, c5, c6, s4, hrow, hg, Val.e, s5, c7.1, c7.2]
              · have v10 : validV [⟨r.name, putL r.recs c⟩] [] ⟨[oneV [r] r.name a.key], [], []⟩ = !decide (a.key = c.key) := by
                  have : vR [⟨r.name, putL r.recs c⟩] (oneV [r] r.name a.key) = !decide (a.key = c.key) := by
                    have hx := read_ext (x := oneV [⟨r.name, putL r.recs c⟩] r.name a.key) (y := oneV [r] r.name a.key)
                    have hiff : oneV [⟨r.name, putL r.recs c⟩] r.name a.key = oneV [r] r.name a.key ↔ tidO (getL (putL r.recs c) a.key) = tidO (getL r.recs a.key) := by
                      rw [← hx, k1, k2]; exact ⟨fun h => h.2.2, fun h => ⟨rfl, ⟨rfl, rfl, rfl⟩, h⟩⟩
                    show decide (oneV [⟨r.name, putL r.recs c⟩] r.name a.key = oneV [r] r.name a.key) = _
                    rw [getL_put c3 c4] at hiff
                    by_cases e : a.key = c.key
                    · rw [if_pos e] at hiff
                      rw [decide_eq_true e, decide_eq_false]
                      · rfl
                      · intro h
                        have h := hiff.1 h
                        simp only [tidO, e] at h
                        cases hgl : getL r.recs c.key with
                        | none => rw [hgl] at h; simp only at h; omega
                        | some d => rw [hgl] at h c7; exact c7 ⟨rfl, h.symm⟩
                    · rw [if_neg e] at hiff
                      rw [decide_eq_false e, decide_eq_true (hiff.2 rfl)]; rfl
                  simp only [validV, List.all_cons, List.all_nil, Bool.and_true, this]
                have v11 : validV [⟨r.name, putL r.recs c⟩] [] ⟨[], [⟨r.name, a.key, a.hi, btwV [r] r.name a.key a.hi⟩], []⟩ = !btw a.key a.hi c := by
                  have : vG [⟨r.name, putL r.recs c⟩] ⟨r.name, a.key, a.hi, btwV [r] r.name a.key a.hi⟩ = !btw a.key a.hi c := by
                    show decide (btwV [⟨r.name, putL r.recs c⟩] r.name a.key a.hi = btwV [r] r.name a.key a.hi) = _
                    simp only [btwV, lookR_one, lookR_one' r ⟨r.name, putL r.recs c⟩ rfl, scanL, c3, putL_may c3 c4, if_true]
                    have hsp := sorted_parts (mayL_pair c3) c.key
                    rw [eqK_of c3] at hsp
                    have e1 : (r.recs.filter (btw a.key a.hi)) = (r.recs.filter (ltK c.key)).filter (btw a.key a.hi) ++ ((getL r.recs c.key).toList.filter (btw a.key a.hi) ++ (r.recs.filter (gtK c.key)).filter (btw a.key a.hi)) := by
                      rw [← List.filter_append, ← List.filter_append, ← hsp]
                    rw [e1]
                    simp only [putL, List.filter_append, List.filter_cons, List.map_append]
                    generalize (r.recs.filter (ltK c.key)).filter (btw a.key a.hi) = A
                    generalize (r.recs.filter (gtK c.key)).filter (btw a.key a.hi) = B
                    have hold : ∀ d, getL r.recs c.key = some d → btw a.key a.hi d = btw a.key a.hi c := fun d hd => by
                      have := ((getL_iff c3).1 hd).2
                      simp only [btw, this]
                    cases hin : btw a.key a.hi c with
                    | false =>
                      have : (getL r.recs c.key).toList.filter (btw a.key a.hi) = [] := by
                        rw [List.filter_eq_nil_iff]
                        intro d hd
                        rw [hold d (by simpa using hd), hin]; simp
                      rw [this]
                      simp
                    | true =>
                      simp only [if_true, List.map_cons, Bool.not_true, decide_eq_false_iff_not]
                      intro h
                      have h := List.append_cancel_left h
                      cases hgl : getL r.recs c.key with
                      | none =>
                        rw [hgl] at h
                        have := congrArg List.length h
                        simp at this
                      | some d =>
                        rw [hgl] at h
                        have hd := hold d hgl
                        rw [hin] at hd
                        simp only [Option.toList_some, List.filter_cons, hd, if_true, List.filter_nil, List.map_cons, List.map_nil, List.cons_append, List.nil_append, List.cons.injEq] at h
                        have := congrArg Read.tid h.1
                        simp only [toRead] at this
                        exact c7 (by rw [hgl]; exact ⟨rfl, this.symm⟩)
                  simp only [validV, List.all_cons, List.all_nil, Bool.and_true, Bool.true_and, this]
                rw [v10] at s10
                rw [v11] at s11
                have hbtw : btw a.key a.hi c = (decide (cmpV a.key c.key ≤ 0) && decide (cmpV c.key a.hi < 0)) := by
                  unfold btw
                  congr 1
                  have := cV.anti c.key a.key
                  exact decide_eq_decide.2 ⟨fun h => by omega, fun h => by omega⟩
                rw [hbtw] at s11
                obtain ⟨tb, key, hi, sn, vws⟩ := a
                dsimp only at *
                have o1 : (oneV [r] r.name key).table = r.name := rfl
                have o2 : (oneV [r] r.name key).key = key := rfl
                simp only [o1, o2] at s10
                clear v10 v11 hbtw k1 k2 hpl hput ho ho' e0 hvs o1 o2 ht hh hs hv
                by_cases e : key = c.key
                · subst e
                  have z := cV.self c.key
                  rw [decide_eq_true rfl] at s10
                  by_cases d1 : (getL r.recs c.key).isSome = true
                  · have d2 : ¬ tidO (getL r.recs c.key) = c.tid := fun e => c7 ⟨d1, e⟩
                    simp [m_L20_ReadsPhantoms, Ask.us, s1, s2, s3, c1, c2', c3, c4, c5, c6, s4, hrow, hg, Val.e, s5, d1, d2, s6, s7, s8, s9, s10, s11, z]
                  · have d1' : (getL r.recs c.key).isSome = false := by simpa using d1
                    simp [m_L20_ReadsPhantoms, Ask.us, s1, s2, s3, c1, c2', c3, c4, c5, c6, s4, hrow, hg, Val.e, s5, d1', s6, s7, s8, s9, s10, s11, z]
                · rw [decide_eq_false e] at s10
                  have hke := val_ext (v := key) (w := c.key)
                  have hd : ¬ key.k = c.key.k ∨ ¬ key.n = c.key.n ∨ ¬ key.s = c.key.s := by
                    by_cases e1 : key.k = c.key.k
                    · by_cases e2 : key.n = c.key.n
                      · exact .inr (.inr fun e3 => e (hke.1 ⟨e1, e2, e3⟩))
                      · exact .inr (.inl e2)
                    · exact .inl e1
                  by_cases d1 : (getL r.recs c.key).isSome = true
                  · have d2 : ¬ tidO (getL r.recs c.key) = c.tid := fun e => c7 ⟨d1, e⟩
                    by_cases d3 : cmpV key c.key ≤ 0
                    · rcases hd with e1 | e1 | e1 <;> simp [m_L20_ReadsPhantoms, Ask.us, s1, s2, s3, c1, c2', c3, c4, c5, c6, s4, hrow, hg, Val.e, s5, d1, d2, s6, s7, s8, s9, s10, s11, d3, e1]
                    · rcases hd with e1 | e1 | e1 <;> simp [m_L20_ReadsPhantoms, Ask.us, s1, s2, s3, c1, c2', c3, c4, c5, c6, s4, hrow, hg, Val.e, s5, d1, d2, s6, s7, s8, s9, s10, s11, d3, e1]
                  · have d1' : (getL r.recs c.key).isSome = false := by simpa using d1
                    by_cases d3 : cmpV key c.key ≤ 0
                    · rcases hd with e1 | e1 | e1 <;> simp [m_L20_ReadsPhantoms, Ask.us, s1, s2, s3, c1, c2', c3, c4, c5, c6, s4, hrow, hg, Val.e, s5, d1', s6, s7, s8, s9, s10, s11, d3, e1]
                    · rcases hd with e1 | e1 | e1 <;> simp [m_L20_ReadsPhantoms, Ask.us, s1, s2, s3, c1, c2', c3, c4, c5, c6, s4, hrow, hg, Val.e, s5, d1', s6, s7, s8, s9, s10, s11, d3, e1]
        · have c4' : c.right = false := by simpa using c4
          simp [m_L20_ReadsPhantoms, Ask.us, s1, s2, s3, c1, c2', c3, c4']
      · have c3' : mayL r.recs = false := by simpa using c3
        simp [m_L20_ReadsPhantoms, Ask.us, s1, s2, c1, c2', c3']
    · have c2' : (20 : Int) < (r.recs.length : Int) := by omega
      simp [m_L20_ReadsPhantoms, Ask.us, s1, c1, c2']
  · have c1' : smallT r = false := by simpa using c1
    simp [m_L20_ReadsPhantoms, Ask.us, s1, c1']

end Go.Proofs.Ytfjjionebffekaa
