/- What is read is as the document says. -/
import Derived.Test.YtfjjionebffekaaPX3
set_option linter.unusedVariables false
set_option linter.unusedSimpArgs false
namespace Go.Proofs.Ytfjjionebffekaa
open Go Go.Pu

theorem reads_Find_res {l : List Rel} (hl : okRs l) (t : List UInt8) : (m_reads_Find [.l (l.map Rel.e), .s (bs t)]).res = some (0, [.s (bs (lookR l t).name), .l ((lookR l t).recs.map Rec.e)]) := by
  have hk := reads_Look_res hl.1 t
  have hS := lookR_ok hl t
  have hfew := lookR_few hl t
  generalize lookR l t = r at hk hS hfew
  have h := loop_acc (rd := rd_reads_Find_18_4) r.recs.length (fun i => [.l (r.recs.map Rec.e), .i r.recs.length, .i (i : Nat), .s (bs []), .s (bs r.name), .l ((r.recs.take i).map Rec.e)]) (some (0, [.s (bs []), .s (bs r.name), .l (r.recs.map Rec.e)]))
    (lres_stop (by simp [rd_reads_Find_18_4])) (by
    intro i hi
    have ho := okR_bytes (okL_at hS hi).1
    have ho' : (re (r.recs[i]).row).length * 32 ≤ 140737488355328 := by omega
    have hb : ((r.recs.take i).length + 1) * 32 ≤ 140737488355328 := by rw [List.length_take]; omega
    rw [take_succ hi, List.map_append]
    generalize r.recs.take i = u at hb ⊢
    simp [rd_reads_Find_18_4, hi, Rec.e, ho', hb, w64_succ (i := i) (by omega)])
  simp only [Int.natCast_zero, List.take_zero, List.map_nil] at h
  simp [m_reads_Find, hk, emp_bs, h]

theorem R20_Find_res {l : List Rel} (h0 : l.length ≤ 4398046511104) (t : List UInt8) : (m_R20_Find [.l (l.map Rel.e), .s (bs t)]).res = some (0, [.s (bs (lookR l t).name), .l ((lookR l t).recs.map Rec.e)]) := by
  have hl := loop_all l (rd := rd_R20_Find_19_2) (fun i => [.l (l.map Rel.e), .s (bs t), .i (i : Nat), .s (bs [])]) (fun r => !decide (r.name = t)) 0 1 (fun i => [.s (bs (l.getD i default).name), .l ((l.getD i default).recs.map Rec.e)]) [.s (bs [])] (by simp [rd_R20_Find_19_2]) (by
    intro i h
    by_cases hm : l[i].name = t <;> simp [rd_R20_Find_19_2, el_at _ h, h, w64_succ (i := i) (by omega), Rel.e, hm, List.getD])
  simp only [Int.natCast_zero] at hl
  rcases hl with ⟨h1, h2⟩ | ⟨h1, i, h, h3, h4, h2⟩
  · simp [m_R20_Find, emp_bs, h2, lookR, find_nil h1]
  · simp [m_R20_Find, emp_bs, h2, lookR, find_first (q := fun r : Rel => decide (r.name = t)) h h3 h4, h, List.getD]

theorem R20_One_res {l : List Rel} (hl : okRs l) (t : List UInt8) (k : Val) : (m_R20_One [.l (l.map Rel.e), .s (bs t), .i k.k, .i k.n, .s (bs k.s)]).res =
    some (0, [.s (bs t), .i k.k, .i k.n, .s (bs k.s), .i (oneV l t k).tid]) := by
  simp [m_R20_One, R20_Find_res hl.1, R16_Get_res _ (lookR_ok hl t) k, oneV]

theorem toRead_one {l : List Rel} (t : List UInt8) {c : Rec} {a b : Val} (h : c ∈ scanL (lookR l t).recs a b) : oneV l t c.key = toRead t c := by
  have hm : mayL (lookR l t).recs = true := by
    unfold scanL at h
    split at h
    · assumption
    · cases h
  have hc := (scanL_sub _ a b).subset h
  have hg := (getL_iff hm (k := c.key) (c := c)).2 ⟨hc, rfl⟩
  simp only [oneV, hg, tidO, toRead]

theorem R20_Between_res {l : List Rel} (hl : okRs l) (t : List UInt8) (a b : Val) : (m_R20_Between [.l (l.map Rel.e), .s (bs t), .i a.k, .i a.n, .s (bs a.s), .i b.k, .i b.n, .s (bs b.s)]).res =
    some (0, [.s (bs t), .i a.k, .i a.n, .s (bs a.s), .i b.k, .i b.n, .s (bs b.s), .l ((btwV l t a b).map Read.e)]) := by
  have hS := okL_sub (lookR_ok hl t) (scanL_sub (lookR l t).recs a b)
  have hfew := Nat.le_trans (scanL_sub (lookR l t).recs a b).length_le (lookR_few hl t)
  generalize hs : scanL (lookR l t).recs a b = sc at hS hfew
  have h := loop_acc (rd := rd_R20_Between_24_4) sc.length (fun i => [.l (l.map Rel.e), .s (bs t), .i (i : Nat), .s (bs []), .i 0, .i 0, .s (bs []), .i 0, .i 0, .s (bs []), .s (bs t), .i a.k, .i a.n, .s (bs a.s), .i b.k, .i b.n, .s (bs b.s), .l (sc.map Rec.e), .l (((sc.take i).map (toRead t)).map Read.e)])
    (some (0, [.s (bs []), .i 0, .i 0, .s (bs []), .i 0, .i 0, .s (bs []), .s (bs t), .i a.k, .i a.n, .s (bs a.s), .i b.k, .i b.n, .s (bs b.s), .l ((sc.map (toRead t)).map Read.e)]))
    (lres_stop (by simp [rd_R20_Between_24_4])) (by
    intro i hi
    have hmem : sc[i] ∈ scanL (lookR l t).recs a b := by rw [hs]; exact List.getElem_mem hi
    have hr : 0 < (sc[i]).row.length := scanL_row hmem
    have hg := hd_re hr
    have ho := R20_One_res hl t (hd sc[i].row)
    have hto : oneV l t (hd sc[i].row) = toRead t sc[i] := toRead_one t hmem
    rw [hto] at ho
    have hb : ((sc.take i).length + 1) * 56 ≤ 140737488355328 := by rw [List.length_take]; omega
    rw [take_succ hi, List.map_append, List.map_append]
    generalize sc.take i = u at hb ⊢
    simp [rd_R20_Between_24_4, hi, Rec.e, Read.e, toRead, hr, hg, Val.e, Rec.key, ho, hb, w64_succ (i := i) (by omega)])
  simp only [Int.natCast_zero, List.take_zero, List.map_nil] at h
  simp only [List.map_map] at h
  simp [m_R20_Between, R20_Find_res hl.1, R16_Scan_res _ (lookR_ok hl t) a b, hs, emp_bs, h, btwV]

theorem R20_SameRange_res {x y : Rng} (h0 : x.found.length ≤ 4398046511104) :
    (m_R20_SameRange [.s (bs x.table), .i x.lo.k, .i x.lo.n, .s (bs x.lo.s), .i x.hi.k, .i x.hi.n, .s (bs x.hi.s), .l (x.found.map Read.e), .s (bs y.table), .i y.lo.k, .i y.lo.n, .s (bs y.lo.s), .i y.hi.k, .i y.hi.n, .s (bs y.hi.s), .l (y.found.map Read.e)]).res =
      some (0, [.b (decide (x.table = y.table ∧ x.lo = y.lo ∧ x.hi = y.hi ∧ x.found = y.found))]) := by
  have hs := R20_SameReads_res (a := x.found) (b := y.found) h0
  have v1 := val_ext (v := x.lo) (w := y.lo)
  have v2 := val_ext (v := x.hi) (w := y.hi)
  by_cases c1 : x.table = y.table
  · by_cases c2 : x.lo = y.lo
    · by_cases c3 : x.hi = y.hi
      · simp [m_R20_SameRange, c1, c2, c3, hs]
      · have n3 : ¬ (x.hi.k = y.hi.k ∧ x.hi.n = y.hi.n ∧ x.hi.s = y.hi.s) := fun h => c3 (v2.1 h)
        simp [m_R20_SameRange, c1, c2, c3]
        intro a b c
        exact absurd ⟨a, b, c⟩ n3
    · have n2 : ¬ (x.lo.k = y.lo.k ∧ x.lo.n = y.lo.n ∧ x.lo.s = y.lo.s) := fun h => c2 (v1.1 h)
      simp [m_R20_SameRange, c1, c2]
      intro a b c
      exact absurd ⟨a, b, c⟩ n2
  · simp [m_R20_SameRange, c1]

theorem R20_Valid_res {l : List Rel} (hl : okRs l) {vs : List Src} (hv : okSs vs) {s : Seen} (hs : okSeen s) :
    (m_R20_Valid [.l (l.map Rel.e), .l (vs.map Src.e), .l (s.reads.map Read.e), .l (s.ranges.map Rng.e), .l (s.looks.map Look.e)]).res = some (0, [.b (validV l vs s)]) := by
  obtain ⟨⟨r1, r2⟩, ⟨g1, g2⟩, ⟨k1, k2⟩⟩ := hs
  have h1 := loop_all' s.reads (rd := rd_R20_Valid_26_2) (fun i => [.l (l.map Rel.e), .l (vs.map Src.e), .i (i : Nat), .l (s.reads.map Read.e), .l (s.ranges.map Rng.e), .l (s.looks.map Look.e)]) (vR l) 0 1 [.b false] [.l (l.map Rel.e), .l (vs.map Src.e), .l (s.reads.map Read.e), .l (s.ranges.map Rng.e), .l (s.looks.map Look.e)] (by simp [rd_R20_Valid_26_2]) (by
    intro i h
    have ho := R20_One_res hl s.reads[i].table s.reads[i].key
    by_cases hv : (oneV l s.reads[i].table s.reads[i].key).tid = s.reads[i].tid
    · have he : oneV l s.reads[i].table s.reads[i].key = s.reads[i] := by
        have := read_ext (x := oneV l s.reads[i].table s.reads[i].key) (y := s.reads[i])
        exact this.1 ⟨rfl, ⟨rfl, rfl, rfl⟩, hv⟩
      have : vR l s.reads[i] = true := decide_eq_true he
      simp [rd_R20_Valid_26_2, el_at _ h, h, Read.e, ho, hv, this, w64_succ (i := i) (by omega)]
    · have : vR l s.reads[i] = false := decide_eq_false fun e => hv (by rw [e])
      simp [rd_R20_Valid_26_2, el_at _ h, h, Read.e, ho, hv, this])
  have h2 := loop_all' s.ranges (rd := rd_R20_Valid_26_7) (fun i => [.l (l.map Rel.e), .l (vs.map Src.e), .i (i : Nat), .l (s.reads.map Read.e), .l (s.ranges.map Rng.e), .l (s.looks.map Look.e)]) (vG l) 0 1 [.b false] [.l (vs.map Src.e), .l (s.reads.map Read.e), .l (s.ranges.map Rng.e), .l (s.looks.map Look.e)] (by simp [rd_R20_Valid_26_7]) (by
    intro i h
    have ho := R20_Between_res hl s.ranges[i].table s.ranges[i].lo s.ranges[i].hi
    have he := R20_SameRange_res (x := ⟨s.ranges[i].table, s.ranges[i].lo, s.ranges[i].hi, btwV l s.ranges[i].table s.ranges[i].lo s.ranges[i].hi⟩) (y := s.ranges[i]) (Nat.le_trans (btwV_len hl _ _ _) (by decide))
    by_cases hv : btwV l s.ranges[i].table s.ranges[i].lo s.ranges[i].hi = s.ranges[i].found
    · have : vG l s.ranges[i] = true := decide_eq_true hv
      simp only [hv, and_self, decide_true] at he
      rw [hv] at ho
      simp [rd_R20_Valid_26_7, el_at _ h, h, Rng.e, ho, he, this, w64_succ (i := i) (by omega)]
    · have : vG l s.ranges[i] = false := decide_eq_false hv
      simp only [hv, and_false, decide_false] at he
      simp [rd_R20_Valid_26_7, el_at _ h, h, Rng.e, ho, he, this])
  have h3 := loop_all' s.looks (rd := rd_R20_Valid_26_13) (fun i => [.l (vs.map Src.e), .i (i : Nat), .l (s.reads.map Read.e), .l (s.ranges.map Rng.e), .l (s.looks.map Look.e)]) (vL vs) 0 1 [.b false] [] (by simp [rd_R20_Valid_26_13]) (by
    intro i h
    have ho := R12_Find_res hv.1 s.looks[i].view
    have he := R05_Same_res (a := lookV vs s.looks[i].view) (b := s.looks[i].rows) (lookV_ok hv _) (k2 _ (List.getElem_mem h)).2
    by_cases hv : lookV vs s.looks[i].view = s.looks[i].rows
    · have : vL vs s.looks[i] = true := decide_eq_true hv
      rw [decide_eq_true hv] at he
      simp [rd_R20_Valid_26_13, el_at _ h, h, Look.e, ho, he, this, w64_succ (i := i) (by omega)]
    · have : vL vs s.looks[i] = false := decide_eq_false hv
      rw [decide_eq_false hv] at he
      simp [rd_R20_Valid_26_13, el_at _ h, h, Look.e, ho, he, this])
  simp only [Int.natCast_zero] at h1 h2 h3
  by_cases c1 : s.reads.all (vR l) = true
  · rw [if_pos c1] at h1
    by_cases c2 : s.ranges.all (vG l) = true
    · rw [if_pos c2] at h2
      by_cases c3 : s.looks.all (vL vs) = true
      · rw [if_pos c3] at h3
        simp [m_R20_Valid, h1, h2, h3, validV, c1, c2, c3]
      · rw [if_neg c3] at h3
        have c3' : s.looks.all (vL vs) = false := by simpa using c3
        simp [m_R20_Valid, h1, h2, h3, validV, c1, c2, c3']
    · rw [if_neg c2] at h2
      have c2' : s.ranges.all (vG l) = false := by simpa using c2
      simp [m_R20_Valid, h1, h2, validV, c1, c2']
  · rw [if_neg c1] at h1
    have c1' : s.reads.all (vR l) = false := by simpa using c1
    simp [m_R20_Valid, h1, validV, c1']

theorem R16_SameRecs_res {a b : List Rec} (ha : okL a) (hb : okL b) : (m_R16_SameRecs [.l (a.map Rec.e), .l (b.map Rec.e)]).res = some (0, [.b (decide (a = b))]) := by
  have h0 := ha.1
  by_cases hl : a.length = b.length
  · have h := loop_eq hl (rd := rd_R16_SameRecs_41_4) (fun i => [.l (a.map Rec.e), .l (b.map Rec.e), .i (i : Nat)]) 0 1 [.b false] [] (by simp [rd_R16_SameRecs_41_4]) (by
      intro i h1 h2
      have hc := R02_Compare_res a[i].row b[i].row (ha.2 _ (List.getElem_mem h1)).1.1
      have hz := cR.zero a[i].row b[i].row
      have hx := rec_ext (x := a[i]) (y := b[i])
      by_cases he : a[i] = b[i]
      · have hs := cR.self b[i].row
        rw [he] at hc
        simp [rd_R16_SameRecs_41_4, el_at _ h1, el_at _ h2, h1, h2, Rec.e, w64_succ (i := i) (by omega), he, hc, hs]
      · by_cases hn : a[i].tid = b[i].tid
        · have hr : ¬ cmpR a[i].row b[i].row = 0 := fun h => he (hx.1 ⟨hn, hz.1 h⟩)
          simp [rd_R16_SameRecs_41_4, el_at _ h1, el_at _ h2, h1, h2, Rec.e, he, hn, hc, hr]
        · simp [rd_R16_SameRecs_41_4, el_at _ h1, el_at _ h2, h1, h2, Rec.e, he, hn])
    simp only [Int.natCast_zero] at h
    by_cases he : a = b
    · subst he
      simp at h
      simp [m_R16_SameRecs, h]
    · rw [if_neg he] at h
      simp [m_R16_SameRecs, h, hl, he]
  · have hl' : ¬ (a.length : Int) = b.length := by omega
    have he : a ≠ b := fun e => hl (by rw [e])
    simp [m_R16_SameRecs, hl', he]

theorem R16_Same_self {r : Rel} (h : okL r.recs) : (m_R16_Same [.s (bs r.name), .l (r.recs.map Rec.e), .s (bs r.name), .l (r.recs.map Rec.e)]).res = some (0, [.b true]) := by
  simp [m_R16_Same, R16_SameRecs_res h h]

set_option maxHeartbeats 2000000 in
theorem readsTells_res {l : List Rel} (hl : l.length ≤ 4398046511104 ∧ ∀ c ∈ l, c.ok) {a : Ask} (ha : a.ok) : (m_L20_ReadsTells (.l (l.map Rel.e) :: a.us)).res = some (0, [.b true]) := by
  obtain ⟨ht, hk, hh, hs, hv⟩ := ha
  have s1 := R20_Small_res hl
  have s2 := R20_Few_res hs
  have s3 := R12_Small_res hv
  by_cases c1 : smallRs l = true
  · by_cases c2 : few a.s = true
    · by_cases c3 : smallSs a.views = true
      · have ho := smallRs_ok hl c1
        have r3 := reads_Find_res ho a.table
        have r4 := R20_Find_res hl.1 a.table
        have r5 := R16_Same_self (lookR_ok ho a.table)
        have r6 := reads_One_res ho a.table a.key
        have r7 := R20_One_res ho a.table a.key
        have r8 := reads_Between_res ho a.table a.key a.hi
        have r9 := R20_Between_res ho a.table a.key a.hi
        have r10 := R20_SameRange_res (x := ⟨a.table, a.key, a.hi, btwV l a.table a.key a.hi⟩) (y := ⟨a.table, a.key, a.hi, btwV l a.table a.key a.hi⟩) (Nat.le_trans (btwV_len ho _ _ _) (by decide))
        have r11 := reads_Valid_res ho hv hs
        have r12 := R20_Valid_res ho hv hs
        simp only [and_self, decide_true] at r10
        simp [m_L20_ReadsTells, Ask.us, s1, s2, s3, c1, c2, c3, r3, r4, r5, r6, r7, r8, r9, r10, r11, r12]
      · have c3' : smallSs a.views = false := by simpa using c3
        simp [m_L20_ReadsTells, Ask.us, s1, s2, s3, c1, c2, c3']
    · have c2' : few a.s = false := by simpa using c2
      simp [m_L20_ReadsTells, Ask.us, s1, s2, c1, c2']
  · have c1' : smallRs l = false := by simpa using c1
    simp [m_L20_ReadsTells, Ask.us, s1, c1']

end Go.Proofs.Ytfjjionebffekaa
