/- Texts of this seat, one behind the other. -/
import Derived.Test.YtikmahlogjcieaaGreatVX
set_option linter.unusedVariables false
set_option linter.unusedSimpArgs false
namespace Go.Proofs.YtikmahlogjcieaaGreat
open Go Go.Pu

structure Nd where
  op : Int
  n : Int
  v : Val
def Nd.e (d : Nd) : List PV := [pI d.op, pI d.n, pI d.v.k, pI d.v.n, pS (bs d.v.s)]
def Nd.ok (d : Nd) : Prop := i64 d.op ∧ i64 d.n ∧ d.v.ok

def tk (op : Int) : Int := if op = 0 ∨ op = 1 then 0 else if op = 9 ∨ op = 10 then 1 else if 2 ≤ op ∧ op ≤ 8 then 2 else -1
def kOk (k a : Int) : Bool := decide (a = k ∨ a = 0)
def lv (op a b : Int) : Int × Bool :=
  if op = 2 ∨ op = 3 ∨ op = 4 then (2, kOk 2 a && kOk 2 b) else if op = 5 ∨ op = 6 then (1, decide (a = b ∨ a = 0 ∨ b = 0)) else if op = 7 ∨ op = 8 then (1, kOk 1 a && kOk 1 b)
  else if op = 9 then (1, kOk 1 b) else (1, true)
def cmpE (op : Int) (a b : Val) : Val := if a.k = 0 ∨ b.k = 0 then nul else tru (if op = 5 then decide (cmpV a b = 0) else decide (cmpV a b < 0))
def do2 (op : Int) (a b : Val) : Val × Bool :=
  if op = 2 then addV a b else if op = 3 then subV a b else if op = 4 then mulV a b else
    (if op = 7 then foldV false [a, b] else if op = 8 then foldV true [a, b] else if op = 9 then notV b else if op = 10 then tru (decide (b.k = 0)) else cmpE op a b, true)

def appV (op : Int) (a b : Val) (s : List Val) : Except Int (List Val) :=
  if (lv op a.k b.k).2 = true then (if (do2 op a b).2 = true then .ok ((do2 op a b).1 :: s) else .error 31) else .error 30
def stepV (row : List Val) (s : List Val) (d : Nd) : Except Int (List Val) :=
  if d.op = 0 then (if 0 ≤ d.n ∧ d.n < row.length then .ok (row.getD d.n.toNat nul :: s) else .error 30)
  else if d.op = 1 then (if mayV d.v = true then .ok (d.v :: s) else .error 30)
  else if tk d.op = 1 then (match s with | [] => .error 30 | b :: s => appV d.op nul b s)
  else if tk d.op = 2 then (match s with | b :: a :: s => appV d.op a b s | _ => .error 30)
  else .error 30
def runV (row : List Val) : List Nd → List Val → Except Int (List Val)
  | [], s => .ok s
  | d :: e, s => match stepV row s d with | .error f => .error f | .ok s => runV row e s
def lastV : Except Int (List Val) → Val × Int
  | .error f => (nul, f)
  | .ok [x] => (x, 0)
  | .ok _ => (nul, 30)
def evalV (e : List Nd) (row : List Val) : Val × Int := if e.length > 100 then (nul, 1) else lastV (runV row e [])
def trueV (e : List Nd) (row : List Val) : Bool × Int := if e.length = 0 then (true, 0) else (decide ((evalV e row).2 = 0 ∧ (evalV e row).1 = tru true), (evalV e row).2)

/-! what has a kind -/

/-! parts -/

/-! many ones, added up -/

end Go.Proofs.YtikmahlogjcieaaGreat

set_option linter.unusedVariables false
set_option linter.unusedSimpArgs false
namespace Go.Proofs.YtikmahlogjcieaaGreat
open Go Go.Pu

def kN (k : Int) : List PV := [pI k]

theorem takes_res (op : Int) : (m_expr_takes [.i op]).res = some (0, [.i (tk op)]) := by
  simp only [m_expr_takes, res_test, res_stop, beq_iff_eq, tk]
  (repeat' split) <;> first | rfl | (exfalso; omega)

theorem tk_vals (op : Int) : tk op = -1 ∨ tk op = 0 ∨ tk op = 1 ∨ tk op = 2 := by unfold tk; (repeat' split) <;> omega
theorem tk_0 {op : Int} (h : tk op = 0) : op = 0 ∨ op = 1 := by unfold tk at h; (repeat' split at h) <;> first | assumption | (exfalso; omega)
theorem tk_1 {op : Int} (h : tk op = 1) : op = 9 ∨ op = 10 := by unfold tk at h; (repeat' split at h) <;> first | assumption | (exfalso; omega)
theorem tk_2 {op : Int} (h : tk op = 2) : 2 ≤ op ∧ op ≤ 8 := by unfold tk at h; (repeat' split at h) <;> first | assumption | (exfalso; omega)
theorem all_res (k : Int) (l : List Int) (hl : l.length ≤ 1000000) : (m_expr_all [.i k, .l (l.map kN)]).res = some (0, [.b (l.all (kOk k))]) := by
  have h := loop_all' l (rd := rd_expr_all_107_2) (fun i => [.i k, .l (l.map kN), .i (l.length : Nat), .i (i : Nat)]) (kOk k) 0 1 [.b false] [] (by simp [rd_expr_all_107_2]) (by
    intro i h
    by_cases c1 : l[i] = k
    · simp [rd_expr_all_107_2, el_map _ _ h, h, kN, kOk, c1, w64_succ (i := i) (by omega)]
    · by_cases c2 : l[i] = 0
      · simp [rd_expr_all_107_2, el_map _ _ h, h, kN, kOk, c1, c2, w64_succ (i := i) (by omega)]
      · simp [rd_expr_all_107_2, el_map _ _ h, h, kN, kOk, c1, c2, w64_succ (i := i) (by omega)])
  simp only [Int.natCast_zero] at h
  by_cases e : l.all (kOk k) = true
  · rw [if_pos e] at h
    simp only [m_expr_all, ln_map, h, ok_some', out_some, res_test, res_stop, beq_self_eq_true, if_true, show ((0 : Nat) == 1) = false from rfl, Bool.false_eq_true, if_false, e]
  · rw [if_neg e] at h
    rw [Bool.not_eq_true] at e
    simp only [m_expr_all, ln_map, h, ok_some', out_some, res_test, res_stop, beq_self_eq_true, if_true, uB_0, e]

theorem leaves1 (op b : Int) (h : tk op = 1) : (m_expr_leaves [.i op, .l [kN b]]).res = some (0, [.i (lv op 0 b).1, .b (lv op 0 b).2]) := by
  have h1 := all_res 1 [b] (by simp)
  simp only [List.map_cons, List.map_nil, List.all_cons, List.all_nil, Bool.and_true] at h1
  rcases tk_1 h with rfl | rfl
  · simp [m_expr_leaves, lv, h1]
  · simp [m_expr_leaves, lv]

theorem leaves2 (op a b : Int) (h : tk op = 2) : (m_expr_leaves [.i op, .l [kN a, kN b]]).res = some (0, [.i (lv op a b).1, .b (lv op a b).2]) := by
  have h1 := all_res 1 [a, b] (by simp)
  have h2 := all_res 2 [a, b] (by simp)
  simp only [List.map_cons, List.map_nil, List.all_cons, List.all_nil, Bool.and_true] at h1 h2
  have i0 : inR 0 (ln [kN a, kN b]) = true := rfl
  have i1 : inR 1 (ln [kN a, kN b]) = true := rfl
  have c0 : cI (List.getD [kN a, kN b] 0 []) 0 = a := rfl
  have c1 : cI (List.getD [kN a, kN b] 1 []) 0 = b := rfl
  have h5 : op = 2 ∨ op = 3 ∨ op = 4 ∨ op = 5 ∨ op = 6 ∨ op = 7 ∨ op = 8 := by have := tk_2 h; omega
  have e1 : ((if (a == b) = true then some (0, [U.i 1, U.b true]) else if (a == 0) = true then some (0, [U.i 1, U.b true]) else some (0, [U.i 1, U.b (b == 0)])) : Rs) = some (0, [.i 1, .b (decide (a = b ∨ a = 0 ∨ b = 0))]) := by
    by_cases x1 : a = b
    · simp [x1]
    · by_cases x2 : a = 0
      · simp [x1, x2]
      · simp [x1, x2]; rfl
  rcases h5 with rfl | rfl | rfl | rfl | rfl | rfl | rfl
  · simp [m_expr_leaves, lv, h2]
  · simp [m_expr_leaves, lv, h2]
  · simp [m_expr_leaves, lv, h2]
  · simp only [m_expr_leaves, res_test, res_stop, i0, i1, c0, c1, if_true, e1]
    simp [lv]
  · simp only [m_expr_leaves, res_test, res_stop, i0, i1, c0, c1, if_true, e1]
    simp [lv]
  · simp [m_expr_leaves, lv, h1]
  · simp [m_expr_leaves, lv, h1]

/-! kinds that are left, as they lie: the last one last -/

theorem sub_one {n : Nat} (h : n ≤ 1000000) : w64 (((n + 1 : Nat) : Int) - 1) = (n : Int) := by rw [w64_eq (by omega) (by omega)]; omega

section
variable (op n k vn : Int) (vs : ByteArray) (C : List (List PV))

end

end Go.Proofs.YtikmahlogjcieaaGreat

set_option linter.unusedVariables false
set_option linter.unusedSimpArgs false
namespace Go.Proofs.YtikmahlogjcieaaGreat
open Go Go.Pu

theorem compare_res (op : Int) (a b : Val) (h : op = 5 ∨ op = 6) : (m_expr_compare [.i op, .i a.k, .i a.n, .s (bs a.s), .i b.k, .i b.n, .s (bs b.s)]).res = some (0, (cmpE op a b).u) := by
  have h1 := value_Compare_res a b
  have h2 := Truth_res (decide (cmpV a b < 0))
  have e : ({ data := #[] } : ByteArray) = bs [] := rfl
  unfold cmpE
  by_cases a0 : a.k = 0
  · simp [m_expr_compare, a0, nul, Val.u, e]
  by_cases b0 : b.k = 0
  · simp [m_expr_compare, a0, b0, nul, Val.u, e]
  rcases h with rfl | rfl
  · by_cases c : cmpV a b = 0
    · simp [m_expr_compare, a0, b0, h1, c, tru, Val.u, e]
    · simp [m_expr_compare, a0, b0, h1, c, tru, Val.u, e]
  · simp only [Val.u] at h2
    simp [m_expr_compare, a0, b0, h1, h2, Val.u]

theorem do_res (op : Int) (a b : Val) (ha : a.ok) (hb : b.ok) (h : tk op = 1 ∨ tk op = 2) : (m_expr_do [.i op, .i a.k, .i a.n, .s (bs a.s), .i b.k, .i b.n, .s (bs b.s)]).res = some (0, ru (do2 op a b)) := by
  have h1 := Add_res a b ha hb
  have h2 := Sub_res a b ha hb
  have h3 := Mul_res a b ha hb
  have h4 := And_res [a, b] (by simp)
  have h5 := Or_res [a, b] (by simp)
  have h6 := Not_res b
  have h7 := Truth_res (b.k == 0)
  have h8 : op = 5 ∨ op = 6 → _ := compare_res op a b
  have e1 : re [a, b] = [[pI a.k, pI a.n, pS (bs a.s)], [pI b.k, pI b.n, pS (bs b.s)]] := rfl
  rw [e1] at h4 h5
  simp only [ru, Val.u] at h1 h2 h3 h4 h5 h6 h7 h8
  have hop : op = 2 ∨ op = 3 ∨ op = 4 ∨ op = 5 ∨ op = 6 ∨ op = 7 ∨ op = 8 ∨ op = 9 ∨ op = 10 := by
    rcases h with h | h
    · have := tk_1 h; omega
    · have := tk_2 h; omega
  unfold do2
  rcases hop with rfl | rfl | rfl | rfl | rfl | rfl | rfl | rfl | rfl
  · simp [m_expr_do, h1, ru]
  · simp [m_expr_do, h2, ru]
  · simp [m_expr_do, h3, ru]
  · simp [m_expr_do, h8, ru]
  · simp [m_expr_do, h8, ru]
  · simp [m_expr_do, h4, ru]
  · simp [m_expr_do, h5, ru]
  · simp [m_expr_do, h6, ru]
  · have h9 : (m_value_Truth [.b (b.k == 0)]).res = some (0, [.i (tru (decide (b.k = 0))).k, .i (tru (decide (b.k = 0))).n, .s (bs (tru (decide (b.k = 0))).s)]) := h7
    simp [m_expr_do, h9, ru]

/-! values that are left, as they lie -/

def sv (s : List Val) : List (List PV) := re s.reverse
theorem sv_ln (s : List Val) : ln (sv s) = (s.length : Nat) := by unfold sv; rw [ln_re, List.length_reverse]
theorem sv_len (s : List Val) : (sv s).length = s.length := by simp [sv, re]
theorem sv_push (v : Val) (s : List Val) : sv s ++ [[pI v.k, pI v.n, pS (bs v.s)]] = sv (v :: s) := by simp [sv, re, Val.e]
theorem sv_top (b : Val) (s : List Val) : el (sv (b :: s)) ((s.length : Nat) : Int) = Val.e b := by
  have h : s.length < (b :: s).reverse.length := by simp
  unfold sv
  rw [el_re _ h]
  congr 1
  simp
theorem sv_at (b a : Val) (s : List Val) : List.getD (sv (b :: a :: s)) s.length [] = Val.e a := by
  have h : s.length < (b :: a :: s).reverse.length := by rw [List.length_reverse, List.length_cons, List.length_cons]; omega
  have h2 : el (sv (b :: a :: s)) ((s.length : Nat) : Int) = Val.e a := by
    unfold sv
    rw [el_re _ h]
    congr 1
    simp
  exact h2
theorem sv_pop (b : Val) (s : List Val) : List.take s.length (sv (b :: s)) = sv s := by simp [sv, re]
theorem sv_pop2 (b a : Val) (s : List Val) : List.take s.length (sv (b :: a :: s)) = sv s := by simp [sv, re]

def okSt (s : List Val) : Prop := ∀ v ∈ s, v.ok

theorem nulE_ok : nul.ok := ⟨by unfold nul i64; simp, by unfold nul i64; simp, by unfold nul big; simp⟩

theorem tru_ok (b : Bool) : (tru b).ok := ⟨by unfold tru i64; simp, by unfold tru i64; cases b <;> simp, by unfold tru big; simp⟩
theorem intV_okE {n : Int} (h : i64 n) : (intV n).ok := ⟨by unfold intV i64; simp, h, by unfold intV big; simp⟩
theorem arith_okE (f : Int → Int → Int) (a b : Val) : (arith f a b).1.ok := by
  unfold arith
  (repeat' split)
  · exact nulE_ok
  · exact nulE_ok
  · rename_i h
    have h' : -9223372036854775808 ≤ f a.n b.n ∧ f a.n b.n < 9223372036854775808 := of_decide_eq_true h
    exact intV_okE h'
  · exact nulE_ok
theorem foldV_okE (b : Bool) (l : List Val) : (foldV b l).ok := by
  unfold foldV; (repeat' split) <;> first | exact tru_ok _ | exact nulE_ok
theorem notV_okE (v : Val) : (notV v).ok := by
  unfold notV; (repeat' split) <;> first | exact tru_ok _ | exact nulE_ok
theorem do2_ok (op : Int) (a b : Val) : (do2 op a b).1.ok := by
  unfold do2 addV subV mulV
  (repeat' split)
  · exact arith_okE _ _ _
  · exact arith_okE _ _ _
  · exact arith_okE _ _ _
  · exact foldV_okE _ _
  · exact foldV_okE _ _
  · exact notV_okE _
  · exact tru_ok _
  · unfold cmpE; split
    · exact nulE_ok
    · exact tru_ok _

theorem appV_len {op : Int} {a b : Val} {s t : List Val} (h : appV op a b s = .ok t) : t.length = s.length + 1 ∧ (okSt s → okSt t) := by
  unfold appV at h
  split at h
  · split at h
    · injection h with h
      subst h
      exact ⟨rfl, fun hs v hv => (List.mem_cons.1 hv).elim (fun e => e ▸ do2_ok _ _ _) (hs v)⟩
    · cases h
  · cases h

theorem stepV_len {row s s' : List Val} {d : Nd} (h : stepV row s d = .ok s') : s'.length ≤ s.length + 1 ∧ ((∀ v ∈ row, v.ok) → d.ok → okSt s → okSt s') := by
  unfold stepV at h
  split at h
  · split at h
    · rename_i hc
      injection h with h
      subst h
      refine ⟨Nat.le_refl _, fun hr hd hs v hv => ?_⟩
      rcases List.mem_cons.1 hv with rfl | hv
      · have : d.n.toNat < row.length := by omega
        rw [List.getD, List.getElem?_eq_getElem this]
        exact hr _ (List.getElem_mem this)
      · exact hs v hv
    · cases h
  · split at h
    · split at h
      · injection h with h
        subst h
        refine ⟨Nat.le_refl _, fun hr hd hs v hv => ?_⟩
        rcases List.mem_cons.1 hv with rfl | hv
        · exact hd.2.2
        · exact hs v hv
      · cases h
    · split at h
      · match s, h with
        | b :: s, h =>
          obtain ⟨h1, h2⟩ := appV_len h
          exact ⟨by simp; omega, fun _ _ hs => h2 fun v hv => hs v (List.mem_cons_of_mem _ hv)⟩
      · split at h
        · match s, h with
          | b :: a :: s, h =>
            obtain ⟨h1, h2⟩ := appV_len h
            exact ⟨by simp; omega, fun _ _ hs => h2 fun v hv => hs v (List.mem_cons_of_mem _ (List.mem_cons_of_mem _ hv))⟩
        · cases h

def roundV (e : List Nd) (row : List Val) (i : Nat) (r : Except Int (List Val)) : Rv :=
  match r with
  | .error f => .stop 0 [.i f, .i 0, .i 0, .s (bs [])]
  | .ok s' => .next [.l (e.map Nd.e), .i (e.length : Nat), .i ((i + 1 : Nat) : Int), .i 0, .i 0, .s (bs []), .b true, .l (re row), .l (sv s')]

set_option maxHeartbeats 800000 in
theorem eval_round (e : List Nd) (hl : e.length ≤ 100) (row : List Val) (hrow : okR row) (i : Nat) (hi : i < e.length) (he : e[i].ok) (s : List Val) (hs : s.length ≤ i) (hok : okSt s) :
    (rd_expr_Eval_66_6 [.l (e.map Nd.e), .i (e.length : Nat), .i (i : Nat), .i 0, .i 0, .s (bs []), .b true, .l (re row), .l (sv s)]).val = some (roundV e row i (stepV row s e[i])) := by
  have hel : el (e.map Nd.e) ((i : Nat) : Int) = Nd.e e[i] := el_map _ _ hi
  have ht := takes_res e[i].op
  have c0 : cI (Nd.e e[i]) 0 = e[i].op := rfl
  have c1 : cI (Nd.e e[i]) 1 = e[i].n := rfl
  have c2 : cI (Nd.e e[i]) 2 = e[i].v.k := rfl
  have c3 : cI (Nd.e e[i]) 3 = e[i].v.n := rfl
  have c4 : cS (Nd.e e[i]) 4 = bs e[i].v.s := rfl
  have hm := value_May_res e[i].v
  have hlen : ∀ s : List Val, s.length ≤ 101 → decide (((sv s).length + 1) * 32 ≤ 140737488355328) = true := fun s h => by rw [decide_eq_true_eq, sv_len]; omega
  have v0 : ∀ v : Val, cI (Val.e v) 0 = v.k := fun _ => rfl
  have v1 : ∀ v : Val, cI (Val.e v) 1 = v.n := fun _ => rfl
  have v2 : ∀ v : Val, cS (Val.e v) 2 = bs v.s := fun _ => rfl
  have eb : ({ data := #[] } : ByteArray) = bs [] := rfl
  generalize e[i] = d at *
  obtain ⟨op, n, v⟩ := d
  simp only at c0 c1 c2 c3 c4 ht hm
  unfold stepV
  simp only
  rcases tk_vals op with h | h | h | h
  · have g0 : ¬ op = 0 := by rintro rfl; exact absurd h (by decide)
    have g1 : ¬ op = 1 := by rintro rfl; exact absurd h (by decide)
    rw [if_neg g0, if_neg g1, if_neg (by omega), if_neg (by omega)]
    rw [h] at ht
    simp only [↓reduceIte, rd_expr_Eval_66_6, rt_test, rt_next, rt_stop, hel, ln_map, inR_cast, Int.ofNat_lt, hi, decide_true, if_true, c0, ht, ok_some', out_some, uI_0, beq_self_eq_true, Bool.not_true, Bool.false_eq_true, if_false, show decide ((-1 : Int) > 0) = false from rfl, show decide ((-1 : Int) > 1) = false from rfl, show decide ((-1 : Int) < 0) = true from rfl, eb, roundV]
  · rw [h] at ht
    rcases tk_0 h with rfl | rfl
    · rw [if_pos rfl]
      simp only [↓reduceIte, rd_expr_Eval_66_6, rt_test, rt_next, rt_stop, hel, ln_map, ln_re, inR_cast, Int.ofNat_lt, hi, decide_true, if_true, c0, c1, ht, ok_some', out_some, uI_0, beq_self_eq_true, Bool.not_true, Bool.false_eq_true, if_false, show decide ((0 : Int) > 0) = false from rfl, show decide ((0 : Int) > 1) = false from rfl, show decide ((0 : Int) < 0) = false from rfl]
      by_cases n0 : n < 0
      · rw [if_neg (c := 0 ≤ n ∧ n < (row.length : Int)) (fun h => by omega)]
        simp only [n0, decide_true, if_true, eb, roundV]
      · by_cases n1 : n ≥ (row.length : Int)
        · rw [if_neg (c := 0 ≤ n ∧ n < (row.length : Int)) (fun h => by omega)]
          simp only [n0, n1, decide_true, decide_false, Bool.false_eq_true, if_false, if_true, eb, roundV]
        · obtain ⟨m, rfl⟩ : ∃ m : Nat, n = m := ⟨n.toNat, by omega⟩
          have hm' : m < row.length := by omega
          have g : row.getD m nul = row[m] := by rw [List.getD, List.getElem?_eq_getElem hm']; rfl
          rw [if_pos (c := 0 ≤ (m : Int) ∧ (m : Int) < (row.length : Int)) (by omega), Int.toNat_natCast, g]
          simp only [n0, n1, decide_false, Bool.false_eq_true, if_false, el_re _ hm', inR_cast, hm', decide_true, if_true, v0, v1, v2, hlen s (by omega), sv_push, w64_succ (i := i) (by omega), roundV]
    · rw [if_neg (by decide), if_pos rfl]
      simp only [↓reduceIte, rd_expr_Eval_66_6, rt_test, rt_next, rt_stop, hel, ln_map, inR_cast, Int.ofNat_lt, hi, decide_true, if_true, c0, c2, c3, c4, ht, hm, ok_some', out_some, uI_0, uB_0, beq_self_eq_true, Bool.not_true, Bool.false_eq_true, if_false, show decide ((0 : Int) > 0) = false from rfl, show decide ((0 : Int) > 1) = false from rfl, show decide ((0 : Int) < 0) = false from rfl, show ((1 : Int) == 0) = false from rfl, hlen s (by omega), sv_push, w64_succ (i := i) (by omega), eb]
      cases mayV v <;> rfl
  · have g0 : ¬ op = 0 := by rintro rfl; exact absurd h (by decide)
    have g1 : ¬ op = 1 := by rintro rfl; exact absurd h (by decide)
    have b0 : (op == 0) = false := by simpa using g0
    have b1 : (op == 1) = false := by simpa using g1
    rw [if_neg g0, if_neg g1, if_pos h]
    have htk := h
    rw [h] at ht
    match s, hs, hok with
    | [], _, _ =>
      simp only [↓reduceIte, rd_expr_Eval_66_6, rt_test, rt_next, rt_stop, hel, ln_map, inR_cast, Int.ofNat_lt, hi, decide_true, if_true, c0, ht, ok_some', out_some, uI_0, beq_self_eq_true, show decide ((1 : Int) > 0) = true from rfl, show decide ((1 : Int) > 1) = false from rfl, show ln (sv []) = 0 from rfl, Bool.false_eq_true, if_false, eb, roundV]
    | b :: s, hs, hok =>
      have hs' : s.length + 1 ≤ i := by simpa using hs
      have hb : b.ok := hok b (List.mem_cons_self ..)
      have hv := leaves1 op b.k h
      have hd := do_res op nul b nulE_ok hb (.inl h)
      have e1 : ln (sv (b :: s)) = ((s.length + 1 : Nat) : Int) := by rw [sv_ln]; rfl
      have e2 : (((s.length + 1 : Nat) : Int) == 0) = false := by rw [beq_eq_false_iff_ne]; omega
      have e3 : inR ((s.length : Nat) : Int) ((s.length + 1 : Nat) : Int) = true := inR_iff.2 ⟨by omega, by omega⟩
      have e4 : decide (s.length < (sv (b :: s)).length) = true := by rw [decide_eq_true_eq, sv_len]; simp
      have e5 : decide ((0 : Int) ≤ 0 ∧ (0 : Int) ≤ ((s.length : Nat) : Int) ∧ ((s.length : Nat) : Int) ≤ ((s.length + 1 : Nat) : Int)) = true := by rw [decide_eq_true_eq]; omega
      have e6 : decide (0 + s.length ≤ (sv (b :: s)).length) = true := by rw [decide_eq_true_eq, sv_len]; simp
      have e7 : decide ((0 : Int) ≤ w64 (2 - 1) ∧ w64 (2 - 1) ≤ 2 ∧ (2 : Int) ≤ 2) = true := rfl
      have e8 : decide (Int.toNat (w64 (2 - 1)) + (2 - Int.toNat (w64 (2 - 1))) ≤ 2) = true := rfl
      have e9 : List.take (2 - Int.toNat (w64 (2 - 1))) (List.drop (Int.toNat (w64 (2 - 1))) [[pI 0], [pI b.k]]) = [kN b.k] := rfl
      simp only [show nul.k = 0 from rfl, show nul.n = 0 from rfl, show nul.s = [] from rfl] at hd
      simp only [↓reduceIte, rd_expr_Eval_66_6, rt_test, rt_next, rt_stop, hel, ln_map, inR_cast, Int.ofNat_lt, hi, decide_true, if_true, c0, c1, c2, c3, c4, ht, b0, b1, e1, e2, e3, e4, e5, e6, e7, e8, e9, sub_one (n := s.length) (by omega), sv_top, Int.toNat_natCast, Nat.sub_zero, sv_pop, v0, v1, v2, hv, eb, hd, ru, ok_some', out_some, uI_0, uI_s, uB_0, uB_s, uS_0, uS_s, beq_self_eq_true, Bool.not_true, Bool.false_eq_true, if_false, show decide ((1 : Int) > 0) = true from rfl, show decide ((1 : Int) > 1) = false from rfl, show decide ((1 : Int) < 0) = false from rfl, hlen s (by omega), sv_push, w64_succ (i := i) (by omega)]
      unfold appV
      rw [show nul.k = 0 from rfl]
      cases (lv op 0 b.k).2 with
      | false => simp only [Bool.not_false, if_true, Bool.false_eq_true, if_false, roundV]
      | true =>
        cases (do2 op nul b).2 with
        | false => simp only [Bool.not_false, Bool.not_true, if_true, Bool.false_eq_true, if_false, roundV]
        | true => simp only [Bool.not_true, if_true, Bool.false_eq_true, if_false, roundV]
  · have g0 : ¬ op = 0 := by rintro rfl; exact absurd h (by decide)
    have g1 : ¬ op = 1 := by rintro rfl; exact absurd h (by decide)
    have b0 : (op == 0) = false := by simpa using g0
    have b1 : (op == 1) = false := by simpa using g1
    rw [if_neg g0, if_neg g1, if_neg (by omega), if_pos h]
    rw [h] at ht
    match s, hs, hok with
    | [], _, _ =>
      simp only [↓reduceIte, rd_expr_Eval_66_6, rt_test, rt_next, rt_stop, hel, ln_map, inR_cast, Int.ofNat_lt, hi, decide_true, if_true, c0, ht, ok_some', out_some, uI_0, beq_self_eq_true, show decide ((2 : Int) > 0) = true from rfl, show decide ((2 : Int) > 1) = true from rfl, show ln (sv []) = 0 from rfl, Bool.false_eq_true, if_false, eb, roundV]
    | [b], hs, _ =>
      have e1 : ln (sv [b]) = 1 := by rw [sv_ln]; rfl
      have e2 : ((1 : Int) == 0) = false := rfl
      have e3 : inR (w64 (1 - 1)) 1 = true := rfl
      have e4 : decide (Int.toNat (w64 (1 - 1)) < (sv [b]).length) = true := rfl
      have e5 : decide ((0 : Int) ≤ 0 ∧ (0 : Int) ≤ w64 (1 - 1) ∧ w64 (1 - 1) ≤ 1) = true := rfl
      have e6 : decide (0 + (Int.toNat (w64 (1 - 1)) - 0) ≤ (sv [b]).length) = true := rfl
      have e7 : ((((Int.toNat (w64 (1 - 1)) - 0 : Nat) : Int)) == 0) = true := rfl
      simp only [↓reduceIte, rd_expr_Eval_66_6, rt_test, rt_next, rt_stop, hel, ln_map, inR_cast, Int.ofNat_lt, hi, decide_true, if_true, c0, ht, ok_some', out_some, uI_0, beq_self_eq_true, e1, e2, e3, e4, e5, e6, e7, show decide ((2 : Int) > 0) = true from rfl, show decide ((2 : Int) > 1) = true from rfl, Bool.false_eq_true, if_false, eb, roundV]
    | b :: a :: s, hs, hok =>
      have hs' : s.length + 1 + 1 ≤ i := by simpa using hs
      have hb : b.ok := hok b (List.mem_cons_self ..)
      have ha : a.ok := hok a (List.mem_cons_of_mem _ (List.mem_cons_self ..))
      have hv := leaves2 op a.k b.k h
      have hd := do_res op a b ha hb (.inr h)
      have e1 : ln (sv (b :: a :: s)) = ((s.length + 1 + 1 : Nat) : Int) := by rw [sv_ln]; rfl
      have e2 : (((s.length + 1 + 1 : Nat) : Int) == 0) = false := by rw [beq_eq_false_iff_ne]; omega
      have e2' : (((s.length + 1 : Nat) : Int) == 0) = false := by rw [beq_eq_false_iff_ne]; omega
      have e3 : inR ((s.length + 1 : Nat) : Int) ((s.length + 1 + 1 : Nat) : Int) = true := inR_iff.2 ⟨by omega, by omega⟩
      have hL : (sv (b :: a :: s)).length = s.length + 1 + 1 := by rw [sv_len]; rfl
      have e4 : decide (s.length + 1 < (sv (b :: a :: s)).length) = true := by rw [decide_eq_true_eq, hL]; omega
      have e5 : decide ((0 : Int) ≤ 0 ∧ (0 : Int) ≤ ((s.length + 1 : Nat) : Int) ∧ ((s.length + 1 : Nat) : Int) ≤ ((s.length + 1 + 1 : Nat) : Int)) = true := by rw [decide_eq_true_eq]; omega
      have e6 : decide (0 + (s.length + 1) ≤ (sv (b :: a :: s)).length) = true := by rw [decide_eq_true_eq, hL]; omega
      have e7 : decide ((0 : Int) ≤ ((s.length : Nat) : Int) ∧ ((s.length : Nat) : Int) < ((s.length + 1 : Nat) : Int) ∧ 0 + s.length < (sv (b :: a :: s)).length) = true := by rw [decide_eq_true_eq, hL]; omega
      have e8 : decide (0 + s.length < (sv (b :: a :: s)).length) = true := by rw [decide_eq_true_eq, hL]; omega
      have e9 : decide ((0 : Int) ≤ 0 ∧ (0 : Int) ≤ ((s.length : Nat) : Int) ∧ ((s.length : Nat) : Int) ≤ ((s.length + 1 : Nat) : Int)) = true := by rw [decide_eq_true_eq]; omega
      have e10 : decide (0 + s.length ≤ (sv (b :: a :: s)).length) = true := by rw [decide_eq_true_eq, hL]; omega
      have f7 : decide ((0 : Int) ≤ w64 (2 - 2) ∧ w64 (2 - 2) ≤ 2 ∧ (2 : Int) ≤ 2) = true := rfl
      have f8 : decide (Int.toNat (w64 (2 - 2)) + (2 - Int.toNat (w64 (2 - 2))) ≤ 2) = true := rfl
      have f9 : List.take (2 - Int.toNat (w64 (2 - 2))) (List.drop (Int.toNat (w64 (2 - 2))) [[pI a.k], [pI b.k]]) = [kN a.k, kN b.k] := rfl
      have tp : el (sv (b :: a :: s)) ((s.length + 1 : Nat) : Int) = Val.e b := sv_top b (a :: s)
      have w1 : w64 (((s.length + 1 + 1 : Nat) : Int) - 1) = ((s.length + 1 : Nat) : Int) := sub_one (n := s.length + 1) (by omega)
      have w2 : w64 (((s.length + 1 : Nat) : Int) - 1) = ((s.length : Nat) : Int) := sub_one (n := s.length) (by omega)
      simp only [↓reduceIte, rd_expr_Eval_66_6, rt_test, rt_next, rt_stop, hel, ln_map, inR_cast, Int.ofNat_lt, hi, decide_true, if_true, c0, c1, c2, c3, c4, ht, b0, b1, e1, e2, e2', e3, e4, e5, e6, e7, e8, e9, e10, f7, f8, w1, w2, tp, Nat.zero_add, sv_at, Int.toNat_natCast, Nat.sub_zero, sv_pop2, v0, v1, v2, f9, hv, eb, hd, ru, ok_some', out_some, uI_0, uI_s, uB_0, uB_s, uS_0, uS_s, beq_self_eq_true, Bool.not_true, Bool.false_eq_true, if_false, show decide ((2 : Int) > 0) = true from rfl, show decide ((2 : Int) > 1) = true from rfl, show decide ((2 : Int) < 0) = false from rfl, hlen s (by omega), sv_push, w64_succ (i := i) (by omega)]
      have e7' : decide ((0 : Int) ≤ ((s.length : Nat) : Int) ∧ s.length < s.length + 1 ∧ s.length < (sv (b :: a :: s)).length) = true := by rw [decide_eq_true_eq, hL]; omega
      simp only [Nat.zero_add] at e6 e8 e10
      simp only [e7', e6, e8, e10, if_true]
      unfold appV
      cases (lv op a.k b.k).2 with
      | false => simp only [Bool.not_false, if_true, Bool.false_eq_true, if_false, roundV]
      | true =>
        cases (do2 op a b).2 with
        | false => simp only [Bool.not_false, Bool.not_true, if_true, Bool.false_eq_true, if_false, roundV]
        | true => simp only [Bool.not_true, if_true, Bool.false_eq_true, if_false, roundV]

theorem eval_loop (e : List Nd) (hl : e.length ≤ 100) (he : ∀ d ∈ e, d.ok) (row : List Val) (hrow : okR row) : ∀ m i (s : List Val), e.length - i = m → i ≤ e.length → s.length ≤ i → okSt s →
    lres rd_expr_Eval_66_6 [.l (e.map Nd.e), .i (e.length : Nat), .i (i : Nat), .i 0, .i 0, .s (bs []), .b true, .l (re row), .l (sv s)] =
      match runV row (e.drop i) s with
      | .error f => some (0, [.i f, .i 0, .i 0, .s (bs [])])
      | .ok s' => some (1, [.i 0, .i 0, .s (bs []), .b true, .l (re row), .l (sv s')]) := by
  intro m
  induction m with
  | zero =>
    intro i s h1 h2 h3 h4
    have : i = e.length := by omega
    subst this
    rw [List.drop_length, runV]
    refine lres_stop ?_
    simp [rd_expr_Eval_66_6]
  | succ m ih =>
    intro i s h1 h2 h3 h4
    have h : i < e.length := by omega
    have hr := eval_round e hl row hrow i h (he _ (List.getElem_mem h)) s h3 h4
    rw [List.drop_eq_getElem_cons h, runV]
    cases hs : stepV row s e[i] with
    | error f =>
      rw [hs] at hr
      exact lres_stop hr
    | ok s1 =>
      rw [hs] at hr
      obtain ⟨k1, k2⟩ := stepV_len hs
      rw [lres_next hr]
      exact ih (i + 1) s1 (by omega) (by omega) (by omega) (k2 hrow.2 (he _ (List.getElem_mem h)) h4)

theorem Eval_res (e : List Nd) (he : ∀ d ∈ e, d.ok) (row : List Val) (hrow : okR row) : (m_expr_Eval [.l (e.map Nd.e), .l (re row)]).res = some (0, [.i (evalV e row).1.k, .i (evalV e row).1.n, .s (bs (evalV e row).1.s), .i (evalV e row).2]) := by
  unfold evalV
  have eb : ({ data := #[] } : ByteArray) = bs [] := rfl
  by_cases hl : e.length > 100
  · have : ((e.length : Nat) : Int) > 100 := by omega
    rw [if_pos hl]
    simp only [m_expr_Eval, ln_map, res_test, res_stop, this, decide_true, if_true, nul, eb]
  · have h1 : ¬ ((e.length : Nat) : Int) > 100 := by omega
    have h := eval_loop e (by omega) he row hrow e.length 0 [] (by omega) (by omega) (by simp) (fun v hv => by cases hv)
    simp only [List.drop_zero, Int.natCast_zero, show sv [] = [] from rfl] at h
    rw [if_neg hl]
    match hr : runV row e [] with
    | .error f =>
      rw [hr] at h
      simp only [m_expr_Eval, ln_map, res_test, res_stop, h1, decide_false, Bool.false_eq_true, if_false, eb, h, ok_some', out_some, beq_self_eq_true, if_true, uI_0, uI_s, uS_0, uS_s, lastV, nul]
    | .ok [] =>
      rw [hr] at h
      simp only [m_expr_Eval, ln_map, res_test, res_stop, h1, decide_false, Bool.false_eq_true, if_false, eb, h, ok_some', out_some, beq_self_eq_true, if_true, uI_0, uI_s, uB_0, uB_s, uL_0, uL_s, show ((0 : Nat) == 1) = false from rfl, Bool.not_true, show (ln (sv []) != 1) = true from rfl, lastV, nul]
    | .ok [x] =>
      rw [hr] at h
      have g1 : (ln (sv [x]) != 1) = false := rfl
      have g2 : inR 0 (ln (sv [x])) = true := rfl
      have g3 : decide (0 < (sv [x]).length) = true := rfl
      have g4 : List.getD (sv [x]) 0 [] = Val.e x := rfl
      simp only [m_expr_Eval, ln_map, res_test, res_stop, h1, decide_false, Bool.false_eq_true, if_false, eb, h, ok_some', out_some, beq_self_eq_true, if_true, uI_0, uI_s, uB_0, uB_s, uL_0, uL_s, show ((0 : Nat) == 1) = false from rfl, Bool.not_true, g1, g2, g3, g4, lastV]
      rfl
    | .ok (x :: y :: s) =>
      rw [hr] at h
      have g1 : (ln (sv (x :: y :: s)) != 1) = true := by rw [sv_ln, bne_iff_ne]; simp; omega
      simp only [m_expr_Eval, ln_map, res_test, res_stop, h1, decide_false, Bool.false_eq_true, if_false, eb, h, ok_some', out_some, beq_self_eq_true, if_true, uI_0, uI_s, uB_0, uB_s, uL_0, uL_s, show ((0 : Nat) == 1) = false from rfl, Bool.not_true, g1, lastV, nul]

theorem True_res (e : List Nd) (he : ∀ d ∈ e, d.ok) (row : List Val) (hrow : okR row) : (m_expr_True [.l (e.map Nd.e), .l (re row)]).res = some (0, [.b (trueV e row).1, .i (trueV e row).2]) := by
  unfold trueV
  have h := Eval_res e he row hrow
  by_cases e0 : e.length = 0
  · have : (((e.length : Nat) : Int) == 0) = true := by rw [beq_iff_eq]; omega
    rw [if_pos e0]
    simp only [m_expr_True, ln_map, res_test, res_stop, this, if_true]
  · have : (((e.length : Nat) : Int) == 0) = false := by rw [beq_eq_false_iff_ne]; omega
    rw [if_neg e0]
    simp only [m_expr_True, ln_map, res_test, res_stop, this, Bool.false_eq_true, if_false, h, ok_some', out_some, beq_self_eq_true, if_true, uI_0, uI_s, uS_0, uS_s, bs_toList]
    generalize (evalV e row).1 = v
    generalize (evalV e row).2 = f
    by_cases f0 : f = 0
    · subst f0
      have := eqV_c v 1 1 []
      simp only [beq_self_eq_true, if_true, this, true_and]
      rfl
    · have hf : (f == 0) = false := by simpa using f0
      simp only [hf, Bool.false_eq_true, if_false, f0, false_and, decide_false]

end Go.Proofs.YtikmahlogjcieaaGreat

set_option linter.unusedVariables false
set_option linter.unusedSimpArgs false
namespace Go.Proofs.YtikmahlogjcieaaGreat
open Go Go.Pu

end Go.Proofs.YtikmahlogjcieaaGreat

set_option linter.unusedVariables false
set_option linter.unusedSimpArgs false
namespace Go.Proofs.YtikmahlogjcieaaGreat
open Go Go.Pu

end Go.Proofs.YtikmahlogjcieaaGreat

set_option linter.unusedVariables false
set_option linter.unusedSimpArgs false
namespace Go.Proofs.YtikmahlogjcieaaGreat
open Go Go.Pu

/-! texts -/

end Go.Proofs.YtikmahlogjcieaaGreat

set_option linter.unusedVariables false
set_option linter.unusedSimpArgs false
namespace Go.Proofs.YtikmahlogjcieaaGreat
open Go Go.Pu

theorem one1_e (r : List Val) (n : Int) (h : n ≠ 0) : (one1 r n).map Cnt.e = [[PV.lst 56 (re r), pI n]] := by
  unfold one1; rw [if_pos h]; rfl
theorem one1_0 (r : List Val) : one1 r 0 = [] := by unfold one1; rw [if_neg (by simp)]

theorem room2 {α : Type} (l : List α) (x : α) {k : Nat} (h : l.length ≤ k) (hk : k ≤ 4398046511102) : ((l ++ [x]).length + 1) * 32 ≤ 140737488355328 := by
  have : (l ++ [x]).length = l.length + 1 := by simp
  omega

theorem add_laid (b : List Cnt) (hb : okB b) (r : List Val) (n : Int) : ∀ m i (o : List Cnt), b.length - i = m → i ≤ b.length → o.length ≤ i + 1 → b.length ≤ 4398046511102 → (∀ c ∈ b.drop i, c.row ≠ r) →
    lres rd_R05_Add_41_4 [.l (b.map Cnt.e), .l (re r), .i n, .b true, .i (i : Nat), .l (o.map Cnt.e)] = some (0, [.l (re r), .i n, .b true, .l ((o ++ b.drop i).map Cnt.e)]) := by
  intro m
  induction m with
  | zero =>
    intro i o h1 h2 h3 h4 h5
    have : i = b.length := by omega
    subst this
    refine lres_stop ?_
    simp [rd_R05_Add_41_4]
  | succ m ih =>
    intro i o h1 h2 h3 h4 h5
    have h : i < b.length := by omega
    have hd := List.drop_eq_getElem_cons h
    have hc := R02_Compare_res b[i].row r (hb.2 _ (List.getElem_mem h)).1.1
    have hne : ¬ cmpR b[i].row r = 0 := fun e => h5 b[i] (by rw [hd]; exact List.mem_cons_self ..) ((cR.zero _ _).1 e)
    have hne' : (cmpR b[i].row r != 0) = true := by simpa using hne
    have e1 : ((o.map Cnt.e).length + 1) * 32 ≤ 140737488355328 := by rw [List.length_map]; omega
    have hr : (rd_R05_Add_41_4 [.l (b.map Cnt.e), .l (re r), .i n, .b true, .i (i : Nat), .l (o.map Cnt.e)]).val = some (.next [.l (b.map Cnt.e), .l (re r), .i n, .b true, .i ((i + 1 : Nat) : Int), .l ((o ++ [b[i]]).map Cnt.e)]) := by
      rw [map_app_e, List.map_cons, List.map_nil, show b[i].e = [PV.lst 56 (re b[i].row), pI b[i].n] from rfl]
      simp only [rd_R05_Add_41_4, rt_test, rt_next, rt_stop, el_map _ _ h, row_e, n_e, ln_map, inR_cast, Int.ofNat_lt, h, decide_true, if_true, hc, ok_some', out_some, uI_0, beq_self_eq_true, hne', e1, Bool.not_true, Bool.false_eq_true, if_false, w64_succ (i := i) (by omega)]
      split <;> rfl
    rw [lres_next hr, ih (i + 1) (o ++ [b[i]]) (by omega) (by omega) (by simp; omega) h4 (fun c hc => h5 c (by rw [hd]; exact List.mem_cons_of_mem _ hc)), hd, List.append_assoc]
    rfl

theorem add_loop (b : List Cnt) (hb : okB b) (hlen : b.length ≤ 4398046511102) (hr0 : rising b) (r : List Val) (n : Int) (hn : n.natAbs ≤ 2305843009213693952) (hbn : ∀ c ∈ b, c.n.natAbs ≤ 2305843009213693952) : ∀ m i (o : List Cnt), b.length - i = m → i ≤ b.length → o.length ≤ i →
    ∃ lb o', lres rd_R05_Add_41_4 [.l (b.map Cnt.e), .l (re r), .i n, .b false, .i (i : Nat), .l (o.map Cnt.e)] = some (0, [.l (re r), .i n, .b lb, .l (o'.map Cnt.e)]) ∧
      (lb = true → o' = o ++ addC (b.drop i) r n) ∧ (lb = false → o' = o ++ b.drop i ∧ addC (b.drop i) r n = b.drop i ++ one1 r n ∧ o'.length ≤ b.length) := by
  intro m
  induction m with
  | zero =>
    intro i o h1 h2 h3
    have : i = b.length := by omega
    subst this
    refine ⟨false, o, lres_stop ?_, fun h => (by cases h), fun _ => ⟨by simp, by simp [addC], by omega⟩⟩
    simp [rd_R05_Add_41_4]
  | succ m ih =>
    intro i o h1 h2 h3
    have h : i < b.length := by omega
    have hd := List.drop_eq_getElem_cons h
    have hm := List.getElem_mem h
    have hc := R02_Compare_res b[i].row r (hb.2 _ hm).1.1
    have e1 : ((o.map Cnt.e).length + 1) * 32 ≤ 140737488355328 := by rw [List.length_map]; omega
    have e2 : ∀ x : List PV, ((o.map Cnt.e ++ [x]).length + 1) * 32 ≤ 140737488355328 := fun x => room2 _ x (k := i) (by rw [List.length_map]; exact h3) (by omega)
    have hrest : ∀ c ∈ b.drop (i + 1), cmpR b[i].row c.row < 0 := by
      have := hr0.sublist (List.drop_sublist i b)
      rw [hd] at this
      exact (List.pairwise_cons.1 this).1
    have hbi : b[i].e = [PV.lst 56 (re b[i].row), pI b[i].n] := rfl
    rcases cR.rng b[i].row r with hx | hx | hx
    · -- ahead
      have hr : (rd_R05_Add_41_4 [.l (b.map Cnt.e), .l (re r), .i n, .b false, .i (i : Nat), .l (o.map Cnt.e)]).val = some (.next [.l (b.map Cnt.e), .l (re r), .i n, .b false, .i ((i + 1 : Nat) : Int), .l ((o ++ [b[i]]).map Cnt.e)]) := by
        rw [map_app_e, List.map_cons, List.map_nil, hbi]
        simp only [rd_R05_Add_41_4, rt_test, rt_next, rt_stop, el_map _ _ h, row_e, n_e, ln_map, inR_cast, Int.ofNat_lt, h, decide_true, if_true, hc, hx, ok_some', out_some, uI_0, beq_self_eq_true, e1, w64_succ (i := i) (by omega)]
        rfl
      obtain ⟨lb, o', k1, k2, k3⟩ := ih (i + 1) (o ++ [b[i]]) (by omega) (by omega) (by simp; omega)
      refine ⟨lb, o', by rw [lres_next hr, k1], fun hl => ?_, fun hl => ?_⟩
      · rw [k2 hl, hd, addC, if_pos (by omega), List.append_assoc]; rfl
      · obtain ⟨q1, q2, q3⟩ := k3 hl
        refine ⟨by rw [q1, hd, List.append_assoc]; rfl, ?_, q3⟩
        rw [hd, addC, if_pos (by omega), q2]; rfl
    · -- the row itself
      have hxe := (cR.zero _ _).1 hx
      have hb1 := hbn _ hm
      have w : w64 (n + b[i].n) = n + b[i].n := w64_eq (by omega) (by omega)
      have hadd : addC (b.drop i) r n = one1 r (n + b[i].n) ++ b.drop (i + 1) := by rw [hd, addC, if_neg (by omega), if_pos hx]
      have hr : (rd_R05_Add_41_4 [.l (b.map Cnt.e), .l (re r), .i n, .b false, .i (i : Nat), .l (o.map Cnt.e)]).val = some (.next [.l (b.map Cnt.e), .l (re r), .i n, .b true, .i ((i + 1 : Nat) : Int), .l ((o ++ one1 r (n + b[i].n)).map Cnt.e)]) := by
        rw [map_app_e]
        by_cases hz : n + b[i].n = 0
        · rw [hz, one1_0]
          simp only [rd_R05_Add_41_4, rt_test, rt_next, rt_stop, el_map _ _ h, row_e, n_e, ln_map, inR_cast, Int.ofNat_lt, h, decide_true, if_true, hc, hx, ok_some', out_some, uI_0, beq_self_eq_true, e1, w, hz, bne_self_eq_false, Bool.false_eq_true, if_false, Bool.not_false, w64_succ (i := i) (by omega), List.map_nil, List.append_nil]
          rfl
        · have hz' : (n + b[i].n != 0) = true := by simpa using hz
          rw [one1_e _ _ hz]
          simp only [rd_R05_Add_41_4, rt_test, rt_next, rt_stop, el_map _ _ h, row_e, n_e, ln_map, inR_cast, Int.ofNat_lt, h, decide_true, if_true, hc, hx, ok_some', out_some, uI_0, beq_self_eq_true, e1, w, hz', bne_self_eq_false, Bool.false_eq_true, if_false, Bool.not_false, w64_succ (i := i) (by omega)]
          rfl
      have ho : (o ++ one1 r (n + b[i].n)).length ≤ i + 1 + 1 := by
        rw [List.length_append]; unfold one1; split <;> simp <;> omega
      have hl := add_laid b hb r n (b.length - (i + 1)) (i + 1) (o ++ one1 r (n + b[i].n)) rfl (by omega) ho hlen (fun c hc => by
        have := lt_ne (hrest c hc)
        rw [hxe] at this
        exact fun e => this e.symm)
      exact ⟨true, o ++ one1 r (n + b[i].n) ++ b.drop (i + 1), by rw [lres_next hr, hl], fun _ => by rw [hadd, List.append_assoc], fun h => (by cases h)⟩
    · -- behind
      have hadd : addC (b.drop i) r n = one1 r n ++ b.drop i := by
        have h1 : ¬ cmpR b[i].row r < 0 := by omega
        have h2 : ¬ cmpR b[i].row r = 0 := by omega
        rw [hd, addC, if_neg h1, if_neg h2]
      have hr : (rd_R05_Add_41_4 [.l (b.map Cnt.e), .l (re r), .i n, .b false, .i (i : Nat), .l (o.map Cnt.e)]).val = some (.next [.l (b.map Cnt.e), .l (re r), .i n, .b true, .i ((i + 1 : Nat) : Int), .l ((o ++ one1 r n ++ [b[i]]).map Cnt.e)]) := by
        rw [map_app_e, map_app_e, List.map_cons, List.map_nil, hbi]
        by_cases hz : n = 0
        · rw [hz, one1_0]
          simp only [rd_R05_Add_41_4, rt_test, rt_next, rt_stop, el_map _ _ h, row_e, n_e, ln_map, inR_cast, Int.ofNat_lt, h, decide_true, if_true, hc, hx, ok_some', out_some, uI_0, beq_self_eq_true, e1, bne_self_eq_false, Bool.false_eq_true, if_false, Bool.not_false, w64_succ (i := i) (by omega), List.map_nil, List.append_nil]
          rfl
        · have hz' : (n != 0) = true := by simpa using hz
          rw [one1_e _ _ hz]
          simp only [rd_R05_Add_41_4, rt_test, rt_next, rt_stop, el_map _ _ h, row_e, n_e, ln_map, inR_cast, Int.ofNat_lt, h, decide_true, if_true, hc, hx, ok_some', out_some, uI_0, beq_self_eq_true, e1, e2, hz', Bool.false_eq_true, if_false, Bool.not_false, w64_succ (i := i) (by omega)]
          rfl
      have ho : (o ++ one1 r n ++ [b[i]]).length ≤ i + 1 + 1 := by
        rw [List.length_append, List.length_append]; unfold one1; split <;> simp <;> omega
      have hl := add_laid b hb r n (b.length - (i + 1)) (i + 1) (o ++ one1 r n ++ [b[i]]) rfl (by omega) ho hlen (fun c hc e => by
        have h1 := hrest c hc
        rw [e] at h1
        omega)
      refine ⟨true, o ++ one1 r n ++ [b[i]] ++ b.drop (i + 1), by rw [lres_next hr, hl], fun _ => ?_, fun h => (by cases h)⟩
      rw [hadd, hd]
      simp

theorem Add_res5 (b : List Cnt) (hb : okB b) (hlen : b.length ≤ 4398046511102) (hr : rising b) (r : List Val) (n : Int) (hn : n.natAbs ≤ 2305843009213693952) (hbn : ∀ c ∈ b, c.n.natAbs ≤ 2305843009213693952) :
    (m_R05_Add [.l (b.map Cnt.e), .l (re r), .i n]).res = some (0, [.l ((addC b r n).map Cnt.e)]) := by
  obtain ⟨lb, o', h1, h2, h3⟩ := add_loop b hb hlen hr r n hn hbn b.length 0 [] (by omega) (by omega) (by simp)
  simp only [Int.natCast_zero, List.map_nil, List.drop_zero, List.nil_append] at h1 h2 h3
  cases lb with
  | true =>
    rw [h2 rfl] at h1
    simp only [m_R05_Add, h1, ok_some', out_some, res_test, res_stop, uB_s, uB_0, uL_s, uL_0, beq_self_eq_true, if_true, Bool.not_true, Bool.false_eq_true, if_false]
  | false =>
    obtain ⟨q1, q2, q3⟩ := h3 rfl
    subst q1
    have e1 : ((o'.map Cnt.e).length + 1) * 32 ≤ 140737488355328 := by rw [List.length_map]; omega
    rw [q2, map_app_e]
    by_cases hz : n = 0
    · subst hz
      rw [one1_0]
      simp only [m_R05_Add, h1, ok_some', out_some, res_test, res_stop, uB_s, uB_0, uI_s, uI_0, uL_s, uL_0, beq_self_eq_true, if_true, Bool.not_false, bne_self_eq_false, Bool.false_eq_true, if_false, List.map_nil, List.append_nil]
    · have hz' : (n != 0) = true := by simpa using hz
      rw [one1_e _ _ hz]
      simp only [m_R05_Add, h1, ok_some', out_some, res_test, res_stop, uB_s, uB_0, uI_s, uI_0, uL_s, uL_0, beq_self_eq_true, if_true, Bool.not_false, hz', e1, decide_true]

end Go.Proofs.YtikmahlogjcieaaGreat

set_option linter.unusedVariables false
set_option linter.unusedSimpArgs false
namespace Go.Proofs.YtikmahlogjcieaaGreat
open Go Go.Pu

theorem At.mono {l : List Rec} {a b : Val} {p q : Nat} (h : At l a p) (g : At l b q) (hab : cmpV a b < 0) : p ≤ q := by
  by_cases e : p ≤ q
  · exact e
  · exfalso
    have hq : q < l.length := by have := h.le; omega
    have h1 := h.lo q hq (by omega)
    have g1 := g.hi q hq (Nat.le_refl _)
    have := cV.lt_trans h1 hab
    omega

end Go.Proofs.YtikmahlogjcieaaGreat

set_option linter.unusedVariables false
set_option linter.unusedSimpArgs false
namespace Go.Proofs.YtikmahlogjcieaaGreat
open Go Go.Pu

theorem el_at {α : Type} (f : α → List PV) {l : List α} {i : Nat} (h : i < l.length) : el (l.map f) i = f l[i] := el_map f l h

/-! a table, by its name -/

/-! by a key -/

/-! between two keys -/

/-! the same reads -/

end Go.Proofs.YtikmahlogjcieaaGreat

set_option linter.unusedVariables false
set_option linter.unusedSimpArgs false
namespace Go.Proofs.YtikmahlogjcieaaGreat
open Go Go.Pu

theorem loop_eq {α : Type} [DecidableEq α] {a b : List α} (hl : a.length = b.length) {rd : List U → Rt} (st : Nat → List U) (j0 j1 : Nat) (u0 u1 : List U)
    (hend : (rd (st a.length)).val = some (.stop j1 u1))
    (hstep : ∀ i (h1 : i < a.length) (h2 : i < b.length), (rd (st i)).val = if a[i] = b[i] then some (.next (st (i + 1))) else some (.stop j0 u0)) :
    lres rd (st 0) = if a = b then some (j1, u1) else some (j0, u0) := by
  rcases loop_ix a.length st (fun i => decide (a[i]? = b[i]?)) j0 j1 (fun _ => u0) u1 hend (fun i h1 _ => by
      have h2 : i < b.length := by omega
      rw [hstep i h1 h2]; simp [h1, h2]) with ⟨h1, h2⟩ | ⟨i, hi, h1, _, h2⟩
  · have he : a = b := List.ext_getElem? fun i => by
      by_cases hi : i < a.length
      · simpa using h1 i hi
      · rw [List.getElem?_eq_none (by omega), List.getElem?_eq_none (by omega)]
    rw [if_pos he, h2]
  · have he : a ≠ b := fun e => by subst e; simp at h1
    rw [if_neg he, h2]

theorem cnt_ext {x y : Cnt} : (x.n = y.n ∧ x.row = y.row) ↔ x = y := by
  obtain ⟨a, b⟩ := x
  obtain ⟨a', b'⟩ := y
  simp [And.comm]

theorem R05_Same_res {a b : List Cnt} (ha : okB a) (hb : okB b) : (m_R05_Same [.l (a.map Cnt.e), .l (b.map Cnt.e)]).res = some (0, [.b (decide (a = b))]) := by
  have h0 := ha.1
  by_cases hl : a.length = b.length
  · have h := loop_eq hl (rd := rd_R05_Same_13_4) (fun i => [.l (a.map Cnt.e), .l (b.map Cnt.e), .i (i : Nat)]) 0 1 [.b false] [] (by simp [rd_R05_Same_13_4]) (by
      intro i h1 h2
      have hc := R02_Compare_res a[i].row b[i].row (ha.2 _ (List.getElem_mem h1)).1.1
      have hz := cR.zero a[i].row b[i].row
      have hx := cnt_ext (x := a[i]) (y := b[i])
      by_cases he : a[i] = b[i]
      · have hs := cR.self b[i].row
        rw [he] at hc
        simp [rd_R05_Same_13_4, el_at _ h1, el_at _ h2, h1, h2, Cnt.e, w64_succ (i := i) (by omega), he, hc, hs]
      · by_cases hn : a[i].n = b[i].n
        · have hr : ¬ cmpR a[i].row b[i].row = 0 := fun h => he (hx.1 ⟨hn, hz.1 h⟩)
          simp [rd_R05_Same_13_4, el_at _ h1, el_at _ h2, h1, h2, Cnt.e, he, hn, hc, hr]
        · simp [rd_R05_Same_13_4, el_at _ h1, el_at _ h2, h1, h2, Cnt.e, he, hn])
    simp only [Int.natCast_zero] at h
    by_cases he : a = b
    · subst he
      simp at h
      simp [m_R05_Same, h]
    · rw [if_neg he] at h
      simp [m_R05_Same, h, hl, he]
  · have hl' : ¬ (a.length : Int) = b.length := by omega
    have he : a ≠ b := fun e => hl (by rw [e])
    simp [m_R05_Same, hl', he]

/-! a view's rows -/

/-! is what was read so? -/

end Go.Proofs.YtikmahlogjcieaaGreat

set_option linter.unusedVariables false
set_option linter.unusedSimpArgs false
namespace Go.Proofs.YtikmahlogjcieaaGreat
open Go Go.Pu

end Go.Proofs.YtikmahlogjcieaaGreat

set_option linter.unusedVariables false
set_option linter.unusedSimpArgs false
namespace Go.Proofs.YtikmahlogjcieaaGreat
open Go Go.Pu

theorem sumB_okB {l : List Cnt} (h : okB l) (ha : absN l ≤ 4611686018427387904) : okB (sumB l) := by
  refine ⟨Nat.le_trans (sumB_len l) h.1, fun c hc => ?_⟩
  obtain ⟨d, hd, e⟩ := sumB_row hc
  refine ⟨by rw [← e]; exact (h.2 d hd).1, ?_⟩
  have := cnt_abs l c.row
  rw [sumB_n hc]
  unfold i64
  omega
theorem sumB_snoc (l : List Cnt) (c : Cnt) : sumB (l ++ [c]) = addC (sumB l) c.row c.n := by unfold sumB; rw [List.foldl_append]; rfl

/-! the reference's order of rows -/

end Go.Proofs.YtikmahlogjcieaaGreat

set_option linter.unusedVariables false
set_option linter.unusedSimpArgs false
namespace Go.Proofs.YtikmahlogjcieaaGreat
open Go Go.Pu

end Go.Proofs.YtikmahlogjcieaaGreat

set_option linter.unusedVariables false
set_option linter.unusedSimpArgs false
namespace Go.Proofs.YtikmahlogjcieaaGreat
open Go Go.Pu

end Go.Proofs.YtikmahlogjcieaaGreat

set_option linter.unusedVariables false
set_option linter.unusedSimpArgs false
namespace Go.Proofs.YtikmahlogjcieaaGreat
open Go Go.Pu

theorem smallB_len {b : List Cnt} (h : smallB b = true) : b.length ≤ 60 := by
  unfold smallB at h
  rw [Bool.and_eq_true, decide_eq_true_eq] at h
  exact h.2
end Go.Proofs.YtikmahlogjcieaaGreat

set_option linter.unusedVariables false
set_option linter.unusedSimpArgs false
namespace Go.Proofs.YtikmahlogjcieaaGreat
open Go Go.Pu

theorem Both_res (a b : List Cnt) (ha : okB a) (hb : okB b) (hc : canon a) (hl : a.length + b.length ≤ 1000000) (hn : absN a + absN b ≤ 2305843009213693952) : (m_R05_Both [.l (a.map Cnt.e), .l (b.map Cnt.e)]).res = some (0, [.l ((sumB (a ++ b)).map Cnt.e)]) := by
  have h := loop_acc (rd := rd_R05_Both_24_2) b.length (fun i => [.l ((sumB (a ++ b.take i)).map Cnt.e), .l (b.map Cnt.e), .i (i : Nat)]) (some (0, [.l ((sumB (a ++ b)).map Cnt.e)]))
    (lres_stop (by simp [rd_R05_Both_24_2])) (by
    intro i h
    have hm := List.getElem_mem h
    have oX : okB (a ++ b.take i) := ⟨by rw [List.length_append, List.length_take]; omega, fun c hc => (List.mem_append.1 hc).elim (ha.2 c) fun hc => hb.2 c (List.mem_of_mem_take hc)⟩
    have aX : absN (a ++ b.take i) ≤ 2305843009213693952 := by
      have := absN_take b i
      rw [absN_app]; omega
    have lX := sumB_len (a ++ b.take i)
    rw [List.length_append, List.length_take] at lX
    have hbi : b[i].n.natAbs ≤ absN b := by
      have h1 := absN_take b (i + 1)
      rw [take_one b h, absN_app] at h1
      simp only [absN] at h1
      omega
    have hadd := Add_res5 (sumB (a ++ b.take i)) (sumB_okB oX (by omega)) (by omega) (sumB_canon _).1 b[i].row b[i].n (by omega) (fun c hc => by
      have := cnt_abs (a ++ b.take i) c.row
      rw [sumB_n hc]; omega)
    have e : addC (sumB (a ++ b.take i)) b[i].row b[i].n = sumB (a ++ b.take (i + 1)) := by
      rw [take_one b h, ← List.append_assoc, sumB_snoc]
    rw [e] at hadd
    simp only [rd_R05_Both_24_2, rt_test, rt_next, rt_stop, el_map _ _ h, row_e, n_e, ln_map, inR_cast, Int.ofNat_lt, h, decide_true, if_true, hadd, ok_some', out_some, uL_0, beq_self_eq_true, w64_succ (i := i) (by omega)])
  simp only [List.take_zero, List.append_nil, Int.natCast_zero, sumB_self hc] at h
  simp only [m_R05_Both, h, ok_some', out_some, res_test, res_stop, uL_0, beq_self_eq_true, if_true]

end Go.Proofs.YtikmahlogjcieaaGreat

set_option linter.unusedVariables false
set_option linter.unusedSimpArgs false
namespace Go.Proofs.YtikmahlogjcieaaGreat
open Go Go.Pu

theorem app_ok {a b : List Cnt} (ha : okB a) (hb : okB b) (h : a.length + b.length ≤ 4398046511104) : okB (a ++ b) :=
  ⟨by rw [List.length_append]; exact h, fun c hc => (List.mem_append.1 hc).elim (ha.2 c) (hb.2 c)⟩
end Go.Proofs.YtikmahlogjcieaaGreat

set_option linter.unusedVariables false
set_option linter.unusedSimpArgs false
namespace Go.Proofs.YtikmahlogjcieaaGreat
open Go Go.Pu

/-! what they are handed -/

theorem gd_listC {α : Type} {t : TypeId} {ks : List Kd} {b : Nat} {f : α → List PV} {p : α → Prop} (hk : kds Tryz.prog t = ks) (hb : Tryz.prog.bytesOf t = b) (hb1 : 1 ≤ b)
    (hc : ∀ e, Gds Tryz.prog ks e → ∃ a, e = f a ∧ p a) {x : PV} (h : Gd Tryz.prog (.sl t) x) : ∃ l : List α, x = .lst t (l.map f) ∧ l.length ≤ 140737488355328 ∧ ∀ a ∈ l, p a := by
  obtain ⟨es, rfl, h1, h2⟩ := gd_lst h
  rw [hk] at h2
  rw [hb] at h1
  obtain ⟨l, rfl, hl⟩ := lst_map fun e he => hc e (h2 e he)
  refine ⟨l, rfl, ?_, hl⟩
  rw [List.length_map] at h1
  have : l.length * 1 ≤ l.length * b := Nat.mul_le_mul_left _ hb1
  unfold big at h1
  omega

theorem gd_nodes {x : PV} (h : Gd Tryz.prog (.sl 58) x) : ∃ e : List Nd, x = .lst 58 (e.map Nd.e) ∧ e.length ≤ 140737488355328 ∧ ∀ d ∈ e, d.ok :=
  gd_listC (f := Nd.e) (p := Nd.ok) (ks := [.int .i64, .int .i64, .int .i64, .int .i64, .str]) (b := 48) (by kernel_rfl) (by kernel_rfl) (by decide) (fun e he => by
    obtain ⟨hl, hg⟩ := gds_cells he
    match e, hl, hg with
    | [a, b, c, d, f], _, hg =>
      obtain ⟨op, rfl, h1⟩ := gd_int (hg 0 (by decide))
      obtain ⟨n, rfl, h2⟩ := gd_int (hg 1 (by decide))
      obtain ⟨v, rfl, rfl, rfl, hv⟩ := val_cells (hg 2 (by decide)) (hg 3 (by decide)) (hg 4 (by decide))
      exact ⟨⟨op, n, v⟩, rfl, h1, h2, hv⟩) h

end Go.Proofs.YtikmahlogjcieaaGreat

set_option linter.unusedVariables false
set_option linter.unusedSimpArgs false
namespace Go.Proofs.YtikmahlogjcieaaGreat
open Go Go.Pu

theorem R03_Takes_res (op : Int) : (m_R03_Takes [.i op]).res = some (0, [.i (tk op)]) := by
  simp only [m_R03_Takes, res_test, res_stop, beq_iff_eq, decide_eq_true_eq, tk]
  (repeat' split) <;> first | rfl | (exfalso; omega)

theorem kOk_test (k a b : Int) : ((if (a == k) = true then (if (b == k) = true then some (0, [U.i k, U.b true]) else some (0, [U.i k, U.b (b == 0)])) else if (a == 0) = true then (if (b == k) = true then some (0, [U.i k, U.b true]) else some (0, [U.i k, U.b (b == 0)])) else some (0, [U.i k, U.b false])) : Rs) = some (0, [.i k, .b (kOk k a && kOk k b)]) := by
  have e : kOk k b = if (b == k) = true then true else (b == 0) := by
    unfold kOk
    by_cases h : b = k
    · simp [h]
    · simp [h]; rfl
  by_cases h1 : a = k
  · have : kOk k a = true := by unfold kOk; simp [h1]
    rw [this, Bool.true_and, e]
    simp [h1]
    by_cases h2 : b = k <;> simp [h2]
  · by_cases h2 : a = 0
    · have : kOk k a = true := by unfold kOk; simp [h2]
      rw [this, Bool.true_and, e]
      simp [h1, h2]
      by_cases h3 : b = k <;> by_cases h4 : (0 : Int) = k <;> simp [h3, h4]
    · have : kOk k a = false := by unfold kOk; simp [h1, h2]
      rw [this, Bool.false_and]
      simp [h1, h2]

theorem R03_Leaves_res (op a b : Int) (h : tk op = 1 ∨ tk op = 2) : (m_R03_Leaves [.i op, .i a, .i b]).res = some (0, [.i (lv op a b).1, .b (lv op a b).2]) := by
  have hop : op = 2 ∨ op = 3 ∨ op = 4 ∨ op = 5 ∨ op = 6 ∨ op = 7 ∨ op = 8 ∨ op = 9 ∨ op = 10 := by
    rcases h with h | h
    · have := tk_1 h; omega
    · have := tk_2 h; omega
  have e1 : ((if (a == b) = true then some (0, [U.i 1, U.b true]) else if (a == 0) = true then some (0, [U.i 1, U.b true]) else some (0, [U.i 1, U.b (b == 0)])) : Rs) = some (0, [.i 1, .b (decide (a = b ∨ a = 0 ∨ b = 0))]) := by
    by_cases x1 : a = b
    · simp [x1]
    · by_cases x2 : a = 0
      · simp [x1, x2]
      · simp [x1, x2]; rfl
  have e2 : ((if (b == 1) = true then some (0, [U.i 1, U.b true]) else some (0, [U.i 1, U.b (b == 0)])) : Rs) = some (0, [.i 1, .b (kOk 1 b)]) := by
    unfold kOk
    by_cases x1 : b = 1
    · simp [x1]
    · simp [x1]; rfl
  rcases hop with rfl | rfl | rfl | rfl | rfl | rfl | rfl | rfl | rfl
  · simp only [m_R03_Leaves, res_test, res_stop, kOk_test]; rfl
  · simp only [m_R03_Leaves, res_test, res_stop, kOk_test]; rfl
  · simp only [m_R03_Leaves, res_test, res_stop, kOk_test]; rfl
  · simp only [m_R03_Leaves, res_test, res_stop, e1]; rfl
  · simp only [m_R03_Leaves, res_test, res_stop, e1]; rfl
  · simp only [m_R03_Leaves, res_test, res_stop, kOk_test]; rfl
  · simp only [m_R03_Leaves, res_test, res_stop, kOk_test]; rfl
  · simp only [m_R03_Leaves, res_test, res_stop, e2]; rfl
  · simp only [m_R03_Leaves, res_test, res_stop]; rfl

theorem Nulls_res (a b : Val) : (m_R01_Nulls [.i a.k, .i a.n, .s (bs a.s), .i b.k, .i b.n, .s (bs b.s)]).res = some (0, [.b (decide (a.k = 0 ∨ b.k = 0))]) := by
  by_cases h : a.k = 0
  · simp [m_R01_Nulls, h]
  · by_cases h2 : b.k = 0
    · simp [m_R01_Nulls, h, h2]
    · simp [m_R01_Nulls, h, h2]
theorem Ints_res (a b : Val) : (m_R01_Ints [.i a.k, .i a.n, .s (bs a.s), .i b.k, .i b.n, .s (bs b.s)]).res = some (0, [.b (decide (a.k = 2 ∧ b.k = 2))]) := by
  by_cases h : a.k = 2
  · by_cases h2 : b.k = 2
    · simp [m_R01_Ints, h, h2]
    · simp [m_R01_Ints, h, h2]
  · simp [m_R01_Ints, h]

theorem arithR {m : List U → Rt} (f : Int → Int → Int) (a b : Val) (h0 : a.k = 0 ∨ b.k = 0 → (m [.i a.k, .i a.n, .s (bs a.s), .i b.k, .i b.n, .s (bs b.s)]).res = some (0, ru (nul, true)))
    (h1 : ¬ (a.k = 0 ∨ b.k = 0) → ¬ (a.k = 2 ∧ b.k = 2) → (m [.i a.k, .i a.n, .s (bs a.s), .i b.k, .i b.n, .s (bs b.s)]).res = some (0, ru (nul, false)))
    (h2 : a.k = 2 → b.k = 2 → (m [.i a.k, .i a.n, .s (bs a.s), .i b.k, .i b.n, .s (bs b.s)]).res = some (0, ru (if in64 (f a.n b.n) then (intV (f a.n b.n), true) else (nul, false)))) :
    (m [.i a.k, .i a.n, .s (bs a.s), .i b.k, .i b.n, .s (bs b.s)]).res = some (0, ru (arith f a b)) := by
  unfold arith
  by_cases c0 : a.k = 0 ∨ b.k = 0
  · rw [if_pos c0, h0 c0]
  · rw [if_neg c0]
    by_cases c1 : a.k = 2 ∧ b.k = 2
    · rw [if_neg (by omega), h2 c1.1 c1.2]
    · rw [if_pos (by omega), h1 c0 c1]

theorem RAdd_res (a b : Val) (ha : a.ok) (hb : b.ok) : (m_R01_Add [.i a.k, .i a.n, .s (bs a.s), .i b.k, .i b.n, .s (bs b.s)]).res = some (0, ru (addV a b)) := by
  have n1 := Nulls_res a b
  have n2 := Ints_res a b
  have i1 := ha.2.1
  have i2 := hb.2.1
  unfold i64 at i1 i2
  have eb : ({ data := #[] } : ByteArray) = bs [] := rfl
  refine arithR (· + ·) a b (fun h => ?_) (fun h g => ?_) (fun g1 g2 => ?_)
  · simp only [m_R01_Add, n1, h, ok_some', out_some, res_test, res_stop, uB_0, beq_self_eq_true, decide_true, if_true, ru, nul, eb]
  · simp only [m_R01_Add, n1, n2, h, g, ok_some', out_some, res_test, res_stop, uB_0, beq_self_eq_true, decide_false, Bool.false_eq_true, if_false, if_true, Bool.not_false, ru, nul, eb]
  · have h : ¬ (a.k = 0 ∨ b.k = 0) := by omega
    have g : a.k = 2 ∧ b.k = 2 := ⟨g1, g2⟩
    rw [decide_eq_false h] at n1
    rw [decide_eq_true g] at n2
    simp only [m_R01_Add, n1, n2, ok_some', out_some, res_test, res_stop, uB_0, beq_self_eq_true, decide_true, decide_false, Bool.false_eq_true, if_false, if_true, Bool.not_true, and_self]
    by_cases p : b.n > 0
    · have w : w64 (9223372036854775807 - b.n) = 9223372036854775807 - b.n := w64_eq (by omega) (by omega)
      have q : ¬ b.n < 0 := by omega
      by_cases r : a.n > 9223372036854775807 - b.n
      · have : in64 (a.n + b.n) = false := by unfold in64; rw [decide_eq_false_iff_not]; omega
        simp only [p, w, r, this, decide_true, if_true, Bool.false_eq_true, if_false, ru, nul, eb]
      · have : in64 (a.n + b.n) = true := by unfold in64; rw [decide_eq_true_eq]; omega
        simp only [p, q, w, r, this, w64_in this, decide_true, decide_false, if_true, Bool.false_eq_true, if_false, ru, intV, eb]
    · by_cases q : b.n < 0
      · have w : w64 (-9223372036854775808 - b.n) = -9223372036854775808 - b.n := w64_eq (by omega) (by omega)
        by_cases r : a.n < -9223372036854775808 - b.n
        · have : in64 (a.n + b.n) = false := by unfold in64; rw [decide_eq_false_iff_not]; omega
          simp only [p, q, w, r, this, decide_true, decide_false, if_true, Bool.false_eq_true, if_false, ru, nul, eb]
        · have : in64 (a.n + b.n) = true := by unfold in64; rw [decide_eq_true_eq]; omega
          simp only [p, q, w, r, this, w64_in this, decide_true, decide_false, if_true, Bool.false_eq_true, if_false, ru, intV, eb]
      · have : in64 (a.n + b.n) = true := by unfold in64; rw [decide_eq_true_eq]; omega
        simp only [p, q, this, w64_in this, decide_true, decide_false, if_true, Bool.false_eq_true, if_false, ru, intV, eb]

theorem RSub_res (a b : Val) (ha : a.ok) (hb : b.ok) : (m_R01_Sub [.i a.k, .i a.n, .s (bs a.s), .i b.k, .i b.n, .s (bs b.s)]).res = some (0, ru (subV a b)) := by
  have n1 := Nulls_res a b
  have n2 := Ints_res a b
  have i1 := ha.2.1
  have i2 := hb.2.1
  unfold i64 at i1 i2
  have eb : ({ data := #[] } : ByteArray) = bs [] := rfl
  refine arithR (· - ·) a b (fun h => ?_) (fun h g => ?_) (fun g1 g2 => ?_)
  · simp only [m_R01_Sub, n1, h, ok_some', out_some, res_test, res_stop, uB_0, beq_self_eq_true, decide_true, if_true, ru, nul, eb]
  · simp only [m_R01_Sub, n1, n2, h, g, ok_some', out_some, res_test, res_stop, uB_0, beq_self_eq_true, decide_false, Bool.false_eq_true, if_false, if_true, Bool.not_false, ru, nul, eb]
  · have h : ¬ (a.k = 0 ∨ b.k = 0) := by omega
    have g : a.k = 2 ∧ b.k = 2 := ⟨g1, g2⟩
    rw [decide_eq_false h] at n1
    rw [decide_eq_true g] at n2
    simp only [m_R01_Sub, n1, n2, ok_some', out_some, res_test, res_stop, uB_0, beq_self_eq_true, decide_true, decide_false, Bool.false_eq_true, if_false, if_true, Bool.not_true, and_self]
    by_cases p : b.n < 0
    · have w : w64 (9223372036854775807 + b.n) = 9223372036854775807 + b.n := w64_eq (by omega) (by omega)
      have q : ¬ b.n > 0 := by omega
      by_cases r : a.n > 9223372036854775807 + b.n
      · have : in64 (a.n - b.n) = false := by unfold in64; rw [decide_eq_false_iff_not]; omega
        simp only [p, w, r, this, decide_true, if_true, Bool.false_eq_true, if_false, ru, nul, eb]
      · have : in64 (a.n - b.n) = true := by unfold in64; rw [decide_eq_true_eq]; omega
        simp only [p, q, w, r, this, w64_in this, decide_true, decide_false, if_true, Bool.false_eq_true, if_false, ru, intV, eb]
    · by_cases q : b.n > 0
      · have w : w64 (-9223372036854775808 + b.n) = -9223372036854775808 + b.n := w64_eq (by omega) (by omega)
        by_cases r : a.n < -9223372036854775808 + b.n
        · have : in64 (a.n - b.n) = false := by unfold in64; rw [decide_eq_false_iff_not]; omega
          simp only [p, q, w, r, this, decide_true, decide_false, if_true, Bool.false_eq_true, if_false, ru, nul, eb]
        · have : in64 (a.n - b.n) = true := by unfold in64; rw [decide_eq_true_eq]; omega
          simp only [p, q, w, r, this, w64_in this, decide_true, decide_false, if_true, Bool.false_eq_true, if_false, ru, intV, eb]
      · have : in64 (a.n - b.n) = true := by unfold in64; rw [decide_eq_true_eq]; omega
        simp only [p, q, this, w64_in this, decide_true, decide_false, if_true, Bool.false_eq_true, if_false, ru, intV, eb]

theorem mul_back {a b : Int} (ha : i64 a) (hb : i64 b) (b0 : b ≠ 0) (hm : ¬ (a = -9223372036854775808 ∧ b = -1)) : (w64 (Int.tdiv (w64 (a * b)) b) = a ∧ Int.tmod (w64 (a * b)) b = 0) ↔ in64 (a * b) = true := by
  constructor
  · intro ⟨h1, h2⟩
    have hr : -9223372036854775808 ≤ w64 (a * b) ∧ w64 (a * b) < 9223372036854775808 := by rw [w64_def]; omega
    generalize w64 (a * b) = n at *
    have h3 := Int.mul_tdiv_add_tmod n b
    rw [h2, Int.add_zero] at h3
    have h4 := Int.natAbs_tdiv_le_natAbs n b
    generalize Int.tdiv n b = q at *
    unfold i64 at ha hb
    by_cases hq : -9223372036854775808 ≤ q ∧ q < 9223372036854775808
    · rw [w64_eq hq.1 hq.2] at h1
      subst h1
      rw [Int.mul_comm q b, h3]
      exact decide_eq_true hr
    · exfalso
      have hq2 : q = 9223372036854775808 := by omega
      subst hq2
      have hn : n = -9223372036854775808 := by omega
      have ha2 : a = -9223372036854775808 := by rw [← h1]; rfl
      have hb2 : b = -1 := by omega
      exact hm ⟨ha2, hb2⟩
  · intro h
    rw [w64_in h, Int.mul_tdiv_cancel _ b0, Int.mul_tmod_left]
    exact ⟨w64_eq ha.1 ha.2, rfl⟩

theorem RMul_res (a b : Val) (ha : a.ok) (hb : b.ok) : (m_R01_Mul [.i a.k, .i a.n, .s (bs a.s), .i b.k, .i b.n, .s (bs b.s)]).res = some (0, ru (mulV a b)) := by
  have n1 := Nulls_res a b
  have n2 := Ints_res a b
  have i1 := ha.2.1
  have i2 := hb.2.1
  have eb : ({ data := #[] } : ByteArray) = bs [] := rfl
  refine arithR (· * ·) a b (fun h => ?_) (fun h g => ?_) (fun g1 g2 => ?_)
  · simp only [m_R01_Mul, n1, h, ok_some', out_some, res_test, res_stop, uB_0, beq_self_eq_true, decide_true, if_true, ru, nul, eb]
  · simp only [m_R01_Mul, n1, n2, h, g, ok_some', out_some, res_test, res_stop, uB_0, beq_self_eq_true, decide_false, Bool.false_eq_true, if_false, if_true, Bool.not_false, ru, nul, eb]
  · have h : ¬ (a.k = 0 ∨ b.k = 0) := by omega
    have g : a.k = 2 ∧ b.k = 2 := ⟨g1, g2⟩
    rw [decide_eq_false h] at n1
    rw [decide_eq_true g] at n2
    simp only [m_R01_Mul, n1, n2, ok_some', out_some, res_test, res_stop, uB_0, beq_self_eq_true, decide_true, decide_false, Bool.false_eq_true, if_false, if_true, Bool.not_true, and_self]
    generalize a.n = x at *
    generalize b.n = y at *
    have z1 : in64 0 = true := rfl
    by_cases x0 : x = 0
    · subst x0
      rw [Int.zero_mul]
      simp only [z1, beq_self_eq_true, if_true, ru, intV, eb]
    have x0' : (x == 0) = false := by simpa using x0
    by_cases y0 : y = 0
    · subst y0
      rw [Int.mul_zero]
      simp only [z1, x0', beq_self_eq_true, if_true, Bool.false_eq_true, if_false, ru, intV, eb]
    have y0' : (y == 0) = false := by simpa using y0
    have y0'' : decide (y = 0) = false := by simpa using y0
    simp only [x0', y0', y0'', Bool.false_eq_true, if_false]
    have fin : ¬ (x = -9223372036854775808 ∧ y = -1) → ((if (w64 (Int.tdiv (w64 (x * y)) y) != x) = true then some (0, [U.i 0, U.i 0, U.s { data := #[] }, U.b false]) else if (Int.tmod (w64 (x * y)) y != 0) = true then some (0, [U.i 0, U.i 0, U.s { data := #[] }, U.b false]) else some (0, [U.i 2, U.i (w64 (x * y)), U.s { data := #[] }, U.b true])) : Rs) =
        some (0, ru (if in64 (x * y) = true then (intV (x * y), true) else (nul, false))) := by
      intro hm
      have hb := mul_back i1 i2 y0 hm
      by_cases hin : in64 (x * y) = true
      · obtain ⟨k1, k2⟩ := hb.2 hin
        rw [if_pos hin]
        have e1 : (w64 (Int.tdiv (w64 (x * y)) y) != x) = false := by rw [k1]; simp
        have e2 : (Int.tmod (w64 (x * y)) y != 0) = false := by rw [k2]; rfl
        rw [if_neg (by rw [e1]; decide), if_neg (by rw [e2]; decide), w64_in hin]
        simp only [ru, intV, eb]
      · rw [if_neg hin]
        by_cases k1 : w64 (Int.tdiv (w64 (x * y)) y) = x
        · have e1 : (w64 (Int.tdiv (w64 (x * y)) y) != x) = false := by rw [k1]; simp
          have k2 : ¬ Int.tmod (w64 (x * y)) y = 0 := fun k2 => hin (hb.1 ⟨k1, k2⟩)
          have e2 : (Int.tmod (w64 (x * y)) y != 0) = true := by rw [bne_iff_ne]; exact k2
          simp only [e1, e2, Bool.false_eq_true, if_false, if_true, ru, nul, eb]
        · have e1 : (w64 (Int.tdiv (w64 (x * y)) y) != x) = true := by rw [bne_iff_ne]; exact k1
          simp only [e1, if_true, ru, nul, eb]
    have big : in64 9223372036854775808 = false := rfl
    by_cases xm : x = -1
    · subst xm
      by_cases ym : y = -9223372036854775808
      · subst ym
        rw [show (-1 : Int) * -9223372036854775808 = 9223372036854775808 from rfl]
        simp only [big, beq_self_eq_true, if_true, Bool.false_eq_true, if_false, ru, nul, eb]
      · have ym' : (y == -9223372036854775808) = false := by simpa using ym
        have hf := fin (by omega)
        by_cases y1 : y = -1
        · subst y1
          simp only [ym', beq_self_eq_true, if_true, Bool.false_eq_true, if_false, show ((-1 : Int) == -9223372036854775808) = false from rfl]
          exact hf
        · have y1' : (y == -1) = false := by simpa using y1
          simp only [ym', y1', beq_self_eq_true, if_true, Bool.false_eq_true, if_false]
          exact hf
    · have xm' : (x == -1) = false := by simpa using xm
      by_cases y1 : y = -1
      · subst y1
        by_cases x2 : x = -9223372036854775808
        · subst x2
          rw [show (-9223372036854775808 : Int) * -1 = 9223372036854775808 from rfl]
          simp only [xm', big, beq_self_eq_true, if_true, Bool.false_eq_true, if_false, ru, nul, eb]
        · have x2' : (x == -9223372036854775808) = false := by simpa using x2
          have hf := fin (by omega)
          simp only [xm', x2', beq_self_eq_true, if_true, Bool.false_eq_true, if_false]
          exact hf
      · have y1' : (y == -1) = false := by simpa using y1
        have hf := fin (by omega)
        simp only [xm', y1', Bool.false_eq_true, if_false]
        exact hf

theorem Rdo_res (op : Int) (a b : Val) (ha : a.ok) (hb : b.ok) (h : tk op = 1 ∨ tk op = 2) : (m_R03_do [.i op, .i a.k, .i a.n, .s (bs a.s), .i b.k, .i b.n, .s (bs b.s)]).res = some (0, ru (do2 op a b)) := by
  have h1 := RAdd_res a b ha hb
  have h2 := RSub_res a b ha hb
  have h3 := RMul_res a b ha hb
  have h4 := RAnd_res [a, b] (by simp)
  have h5 := ROr_res [a, b] (by simp)
  have h6 := RNot_res b
  have h7 : (m_R01_Truth [.b (b.k == 0)]).res = some (0, [.i (tru (decide (b.k = 0))).k, .i (tru (decide (b.k = 0))).n, .s (bs (tru (decide (b.k = 0))).s)]) := RTruth_res (b.k == 0)
  have h8 := Nulls_res a b
  have h9 := R01_Compare_res a b
  have h10 : (m_R01_Truth [.b (cmpV a b == 0)]).res = some (0, [.i (tru (decide (cmpV a b = 0))).k, .i (tru (decide (cmpV a b = 0))).n, .s (bs (tru (decide (cmpV a b = 0))).s)]) := RTruth_res (cmpV a b == 0)
  have h11 : (m_R01_Truth [.b (decide (cmpV a b < 0))]).res = some (0, [.i (tru (decide (cmpV a b < 0))).k, .i (tru (decide (cmpV a b < 0))).n, .s (bs (tru (decide (cmpV a b < 0))).s)]) := RTruth_res (decide (cmpV a b < 0))
  have e1 : re [a, b] = [[pI a.k, pI a.n, pS (bs a.s)], [pI b.k, pI b.n, pS (bs b.s)]] := rfl
  have eb : ({ data := #[] } : ByteArray) = bs [] := rfl
  rw [e1] at h4 h5
  simp only [ru, Val.u] at h1 h2 h3 h4 h5 h6
  have hop : op = 2 ∨ op = 3 ∨ op = 4 ∨ op = 5 ∨ op = 6 ∨ op = 7 ∨ op = 8 ∨ op = 9 ∨ op = 10 := by
    rcases h with h | h
    · have := tk_1 h; omega
    · have := tk_2 h; omega
  unfold do2 cmpE
  rcases hop with rfl | rfl | rfl | rfl | rfl | rfl | rfl | rfl | rfl
  · simp [m_R03_do, h1, ru]
  · simp [m_R03_do, h2, ru]
  · simp [m_R03_do, h3, ru]
  · by_cases c : a.k = 0 ∨ b.k = 0
    · simp [m_R03_do, h8, c, ru, nul, eb]
    · simp [m_R03_do, h8, h9, h10, c, ru, eb]
  · by_cases c : a.k = 0 ∨ b.k = 0
    · simp [m_R03_do, h8, c, ru, nul, eb]
    · simp [m_R03_do, h8, h9, h11, c, ru, eb]
  · simp [m_R03_do, h4, ru]
  · simp [m_R03_do, h5, ru]
  · simp [m_R03_do, h6, ru]
  · simp [m_R03_do, h7, ru]

end Go.Proofs.YtikmahlogjcieaaGreat

set_option linter.unusedVariables false
set_option linter.unusedSimpArgs false
namespace Go.Proofs.YtikmahlogjcieaaGreat
open Go Go.Pu

theorem sub_two {n : Nat} (h : n ≤ 1000000) : w64 (((n + 1 + 1 : Nat) : Int) - 2) = (n : Int) := by rw [w64_eq (by omega) (by omega)]; omega
theorem sv_at2 (b a : Val) (s : List Val) : el (sv (b :: a :: s)) ((s.length : Nat) : Int) = Val.e a := sv_at b a s

def roundR (e : List Nd) (row : List Val) (i : Nat) (r : Except Int (List Val)) : Rv :=
  match r with
  | .error f => .stop 0 [.i f, .i 0, .i 0, .s (bs [])]
  | .ok s' => .next [.l (e.map Nd.e), .l (re row), .i ((i + 1 : Nat) : Int), .i 0, .i 0, .s (bs []), .i 0, .i 0, .s (bs []), .l (sv s')]

set_option maxHeartbeats 800000 in
theorem Reval_round (e : List Nd) (hl : e.length ≤ 100) (row : List Val) (hrow : okR row) (i : Nat) (hi : i < e.length) (he : e[i].ok) (s : List Val) (hs : s.length ≤ i) (hok : okSt s) :
    (rd_R03_Eval_68_6 [.l (e.map Nd.e), .l (re row), .i (i : Nat), .i 0, .i 0, .s (bs []), .i 0, .i 0, .s (bs []), .l (sv s)]).val = some (roundR e row i (stepV row s e[i])) := by
  have hel : el (e.map Nd.e) ((i : Nat) : Int) = Nd.e e[i] := el_map _ _ hi
  have ht := R03_Takes_res e[i].op
  have c0 : cI (Nd.e e[i]) 0 = e[i].op := rfl
  have c1 : cI (Nd.e e[i]) 1 = e[i].n := rfl
  have c2 : cI (Nd.e e[i]) 2 = e[i].v.k := rfl
  have c3 : cI (Nd.e e[i]) 3 = e[i].v.n := rfl
  have c4 : cS (Nd.e e[i]) 4 = bs e[i].v.s := rfl
  have hm := R01_May_res e[i].v
  have hlen : ∀ s : List Val, s.length ≤ 101 → decide (((sv s).length + 1) * 32 ≤ 140737488355328) = true := fun s h => by rw [decide_eq_true_eq, sv_len]; omega
  have hlen2 : ∀ s : List Val, s.length ≤ 101 → decide ((0 + (sv s).length) * 32 ≤ 140737488355328) = true := fun s h => by rw [decide_eq_true_eq, sv_len]; omega
  have v0 : ∀ v : Val, cI (Val.e v) 0 = v.k := fun _ => rfl
  have v1 : ∀ v : Val, cI (Val.e v) 1 = v.n := fun _ => rfl
  have v2 : ∀ v : Val, cS (Val.e v) 2 = bs v.s := fun _ => rfl
  have eb : ({ data := #[] } : ByteArray) = bs [] := rfl
  generalize e[i] = d at *
  obtain ⟨op, n, v⟩ := d
  simp only at c0 c1 c2 c3 c4 ht hm
  unfold stepV
  simp only
  rcases tk_vals op with h | h | h | h
  · have g0 : ¬ op = 0 := by rintro rfl; exact absurd h (by decide)
    have g1 : ¬ op = 1 := by rintro rfl; exact absurd h (by decide)
    rw [if_neg g0, if_neg g1, if_neg (by omega), if_neg (by omega)]
    rw [h] at ht
    simp only [↓reduceIte, rd_R03_Eval_68_6, rt_test, rt_next, rt_stop, hel, ln_map, inR_cast, Int.ofNat_lt, hi, decide_true, if_true, c0, ht, ok_some', out_some, uI_0, beq_self_eq_true, show decide ((-1 : Int) < 0) = true from rfl, roundR]
  · rw [h] at ht
    have hnl : ¬ ((s.length : Nat) : Int) < 0 := by omega
    rcases tk_0 h with rfl | rfl
    · rw [if_pos rfl]
      simp only [↓reduceIte, rd_R03_Eval_68_6, rt_test, rt_next, rt_stop, hel, ln_map, ln_re, sv_ln, hnl, inR_cast, Int.ofNat_lt, hi, decide_true, decide_false, if_true, c0, c1, ht, ok_some', out_some, uI_0, beq_self_eq_true, Bool.false_eq_true, if_false, show decide ((0 : Int) < 0) = false from rfl]
      by_cases n0 : n < 0
      · rw [if_neg (c := 0 ≤ n ∧ n < (row.length : Int)) (fun h => by omega)]
        simp only [n0, decide_true, if_true, roundR]
      · by_cases n1 : n ≥ (row.length : Int)
        · rw [if_neg (c := 0 ≤ n ∧ n < (row.length : Int)) (fun h => by omega)]
          simp only [n0, n1, decide_true, decide_false, Bool.false_eq_true, if_false, if_true, roundR]
        · obtain ⟨m, rfl⟩ : ∃ m : Nat, n = m := ⟨n.toNat, by omega⟩
          have hm' : m < row.length := by omega
          have g : row.getD m nul = row[m] := by rw [List.getD, List.getElem?_eq_getElem hm']; rfl
          rw [if_pos (c := 0 ≤ (m : Int) ∧ (m : Int) < (row.length : Int)) (by omega), Int.toNat_natCast, g]
          simp only [n0, n1, decide_false, Bool.false_eq_true, if_false, el_re _ hm', inR_cast, hm', decide_true, if_true, v0, v1, v2, hlen s (by omega), sv_push, w64_succ (i := i) (by omega), roundR]
    · rw [if_neg (by decide), if_pos rfl]
      simp only [↓reduceIte, rd_R03_Eval_68_6, rt_test, rt_next, rt_stop, hel, ln_map, sv_ln, hnl, inR_cast, Int.ofNat_lt, hi, decide_true, decide_false, if_true, c0, c2, c3, c4, ht, hm, ok_some', out_some, uI_0, uB_0, beq_self_eq_true, Bool.false_eq_true, if_false, show decide ((0 : Int) < 0) = false from rfl, show ((1 : Int) == 0) = false from rfl, hlen s (by omega), sv_push, w64_succ (i := i) (by omega)]
      cases mayV v <;> rfl
  · have g0 : ¬ op = 0 := by rintro rfl; exact absurd h (by decide)
    have g1 : ¬ op = 1 := by rintro rfl; exact absurd h (by decide)
    have b0 : (op == 0) = false := by simpa using g0
    have b1 : (op == 1) = false := by simpa using g1
    rw [if_neg g0, if_neg g1, if_pos h]
    have htk := h
    rw [h] at ht
    match s, hs, hok with
    | [], _, _ =>
      simp only [↓reduceIte, rd_R03_Eval_68_6, rt_test, rt_next, rt_stop, hel, ln_map, inR_cast, Int.ofNat_lt, hi, decide_true, if_true, c0, ht, ok_some', out_some, uI_0, beq_self_eq_true, show decide ((1 : Int) < 0) = false from rfl, show ln (sv []) = 0 from rfl, show decide ((0 : Int) < 1) = true from rfl, Bool.false_eq_true, if_false, roundR]
    | b :: s, hs, hok =>
      have hs' : s.length + 1 ≤ i := by simpa using hs
      have hb : b.ok := hok b (List.mem_cons_self ..)
      have hv := R03_Leaves_res op 0 b.k (.inl h)
      have hd := Rdo_res op nul b nulE_ok hb (.inl h)
      have e1 : ln (sv (b :: s)) = ((s.length + 1 : Nat) : Int) := by rw [sv_ln]; rfl
      have e2 : ¬ ((s.length + 1 : Nat) : Int) < 1 := by omega
      have e3 : inR ((s.length : Nat) : Int) ((s.length + 1 : Nat) : Int) = true := inR_iff.2 ⟨by omega, by omega⟩
      have e4 : decide (s.length < (sv (b :: s)).length) = true := by rw [decide_eq_true_eq, sv_len]; simp
      have e5 : decide ((0 : Int) ≤ 0 ∧ (0 : Int) ≤ ((s.length : Nat) : Int) ∧ ((s.length : Nat) : Int) ≤ ((s.length + 1 : Nat) : Int)) = true := by rw [decide_eq_true_eq]; omega
      have e6 : decide (0 + s.length ≤ (sv (b :: s)).length) = true := by rw [decide_eq_true_eq, sv_len]; simp
      simp only [show nul.k = 0 from rfl, show nul.n = 0 from rfl, show nul.s = [] from rfl] at hd
      simp only [↓reduceIte, rd_R03_Eval_68_6, rt_test, rt_next, rt_stop, hel, ln_map, inR_cast, Int.ofNat_lt, hi, decide_true, decide_false, if_true, c0, c1, c2, c3, c4, ht, b0, b1, e1, e2, e3, e4, e5, e6, sub_one (n := s.length) (by omega), sv_top, Int.toNat_natCast, Nat.sub_zero, sv_pop, v0, v1, v2, hv, hd, ru, List.nil_append, ok_some', out_some, uI_0, uI_s, uB_0, uB_s, uS_0, uS_s, beq_self_eq_true, Bool.not_true, Bool.false_eq_true, if_false, show decide ((1 : Int) > 1) = false from rfl, show decide ((1 : Int) < 0) = false from rfl, hlen s (by omega), hlen2 s (by omega), sv_push, w64_succ (i := i) (by omega)]
      unfold appV
      rw [show nul.k = 0 from rfl]
      cases (lv op 0 b.k).2 with
      | false => simp only [Bool.not_false, if_true, Bool.false_eq_true, if_false, roundR]
      | true =>
        cases (do2 op nul b).2 with
        | false => simp only [Bool.not_false, Bool.not_true, if_true, Bool.false_eq_true, if_false, roundR]
        | true => simp only [Bool.not_true, if_true, Bool.false_eq_true, if_false, roundR]
  · have g0 : ¬ op = 0 := by rintro rfl; exact absurd h (by decide)
    have g1 : ¬ op = 1 := by rintro rfl; exact absurd h (by decide)
    have b0 : (op == 0) = false := by simpa using g0
    have b1 : (op == 1) = false := by simpa using g1
    rw [if_neg g0, if_neg g1, if_neg (by omega), if_pos h]
    rw [h] at ht
    match s, hs, hok with
    | [], _, _ =>
      simp only [↓reduceIte, rd_R03_Eval_68_6, rt_test, rt_next, rt_stop, hel, ln_map, inR_cast, Int.ofNat_lt, hi, decide_true, if_true, c0, ht, ok_some', out_some, uI_0, beq_self_eq_true, show decide ((2 : Int) < 0) = false from rfl, show ln (sv []) = 0 from rfl, show decide ((0 : Int) < 2) = true from rfl, Bool.false_eq_true, if_false, roundR]
    | [b], hs, _ =>
      have e1 : ln (sv [b]) = 1 := by rw [sv_ln]; rfl
      simp only [↓reduceIte, rd_R03_Eval_68_6, rt_test, rt_next, rt_stop, hel, ln_map, inR_cast, Int.ofNat_lt, hi, decide_true, if_true, c0, ht, ok_some', out_some, uI_0, beq_self_eq_true, e1, show decide ((2 : Int) < 0) = false from rfl, show decide ((1 : Int) < 2) = true from rfl, Bool.false_eq_true, if_false, roundR]
    | b :: a :: s, hs, hok =>
      have hs' : s.length + 1 + 1 ≤ i := by simpa using hs
      have hb : b.ok := hok b (List.mem_cons_self ..)
      have ha : a.ok := hok a (List.mem_cons_of_mem _ (List.mem_cons_self ..))
      have hv := R03_Leaves_res op a.k b.k (.inr h)
      have hd := Rdo_res op a b ha hb (.inr h)
      have e1 : ln (sv (b :: a :: s)) = ((s.length + 1 + 1 : Nat) : Int) := by rw [sv_ln]; rfl
      have e2 : ¬ ((s.length + 1 + 1 : Nat) : Int) < 2 := by omega
      have e3 : inR ((s.length + 1 : Nat) : Int) ((s.length + 1 + 1 : Nat) : Int) = true := inR_iff.2 ⟨by omega, by omega⟩
      have e3' : inR ((s.length : Nat) : Int) ((s.length + 1 + 1 : Nat) : Int) = true := inR_iff.2 ⟨by omega, by omega⟩
      have hL : (sv (b :: a :: s)).length = s.length + 1 + 1 := by rw [sv_len]; rfl
      have e4 : decide (s.length + 1 < (sv (b :: a :: s)).length) = true := by rw [decide_eq_true_eq, hL]; omega
      have e4' : decide (s.length < (sv (b :: a :: s)).length) = true := by rw [decide_eq_true_eq, hL]; omega
      have e5 : decide ((0 : Int) ≤ 0 ∧ (0 : Int) ≤ ((s.length : Nat) : Int) ∧ ((s.length : Nat) : Int) ≤ ((s.length + 1 + 1 : Nat) : Int)) = true := by rw [decide_eq_true_eq]; omega
      have e6 : decide (0 + s.length ≤ (sv (b :: a :: s)).length) = true := by rw [decide_eq_true_eq, hL]; omega
      have tp : el (sv (b :: a :: s)) ((s.length + 1 : Nat) : Int) = Val.e b := sv_top b (a :: s)
      have w1 : w64 (((s.length + 1 + 1 : Nat) : Int) - 1) = ((s.length + 1 : Nat) : Int) := sub_one (n := s.length + 1) (by omega)
      have w2 := sub_two (n := s.length) (by omega)
      simp only [↓reduceIte, rd_R03_Eval_68_6, rt_test, rt_next, rt_stop, hel, ln_map, hi, decide_true, decide_false, if_true, c0, c1, c2, c3, c4, ht, b0, b1, e1, e2, e3, e3', e4, e4', e5, e6, w1, w2, tp, sv_at2, Int.toNat_natCast, Nat.sub_zero, sv_pop2, v0, v1, v2, hv, hd, ru, List.nil_append, ok_some', out_some, uI_0, uI_s, uB_0, uB_s, uS_0, uS_s, beq_self_eq_true, Bool.not_true, Bool.false_eq_true, if_false, show decide ((2 : Int) > 1) = true from rfl, show decide ((2 : Int) < 0) = false from rfl, hlen s (by omega), hlen2 s (by omega), sv_push, w64_succ (i := i) (by omega), show decide (((i : Nat) : Int) < ((e.length : Nat) : Int)) = true by rw [decide_eq_true_eq]; omega, show inR ((i : Nat) : Int) ((e.length : Nat) : Int) = true from inR_iff.2 ⟨by omega, by omega⟩]
      unfold appV
      cases (lv op a.k b.k).2 with
      | false => simp only [Bool.not_false, if_true, Bool.false_eq_true, if_false, roundR]
      | true =>
        cases (do2 op a b).2 with
        | false => simp only [Bool.not_false, Bool.not_true, if_true, Bool.false_eq_true, if_false, roundR]
        | true => simp only [Bool.not_true, if_true, Bool.false_eq_true, if_false, roundR]

theorem Reval_loop (e : List Nd) (hl : e.length ≤ 100) (he : ∀ d ∈ e, d.ok) (row : List Val) (hrow : okR row) : ∀ m i (s : List Val), e.length - i = m → i ≤ e.length → s.length ≤ i → okSt s →
    lres rd_R03_Eval_68_6 [.l (e.map Nd.e), .l (re row), .i (i : Nat), .i 0, .i 0, .s (bs []), .i 0, .i 0, .s (bs []), .l (sv s)] =
      match runV row (e.drop i) s with
      | .error f => some (0, [.i f, .i 0, .i 0, .s (bs [])])
      | .ok s' => some (1, [.i 0, .i 0, .s (bs []), .i 0, .i 0, .s (bs []), .l (sv s')]) := by
  intro m
  induction m with
  | zero =>
    intro i s h1 h2 h3 h4
    have : i = e.length := by omega
    subst this
    rw [List.drop_length, runV]
    refine lres_stop ?_
    simp [rd_R03_Eval_68_6]
  | succ m ih =>
    intro i s h1 h2 h3 h4
    have h : i < e.length := by omega
    have hr := Reval_round e hl row hrow i h (he _ (List.getElem_mem h)) s h3 h4
    rw [List.drop_eq_getElem_cons h, runV]
    cases hs : stepV row s e[i] with
    | error f =>
      rw [hs] at hr
      exact lres_stop hr
    | ok s1 =>
      rw [hs] at hr
      obtain ⟨k1, k2⟩ := stepV_len hs
      rw [lres_next hr]
      exact ih (i + 1) s1 (by omega) (by omega) (by omega) (k2 hrow.2 (he _ (List.getElem_mem h)) h4)

theorem REval_res (e : List Nd) (he : ∀ d ∈ e, d.ok) (row : List Val) (hrow : okR row) : (m_R03_Eval [.l (e.map Nd.e), .l (re row)]).res = some (0, [.i (evalV e row).1.k, .i (evalV e row).1.n, .s (bs (evalV e row).1.s), .i (evalV e row).2]) := by
  unfold evalV
  have eb : ({ data := #[] } : ByteArray) = bs [] := rfl
  by_cases hl : e.length > 100
  · have : ((e.length : Nat) : Int) > 100 := by omega
    rw [if_pos hl]
    simp only [m_R03_Eval, ln_map, res_test, res_stop, this, decide_true, if_true, nul, eb]
  · have h1 : ¬ ((e.length : Nat) : Int) > 100 := by omega
    have h := Reval_loop e (by omega) he row hrow e.length 0 [] (by omega) (by omega) (by simp) (fun v hv => by cases hv)
    simp only [List.drop_zero, Int.natCast_zero, show sv [] = [] from rfl] at h
    rw [if_neg hl]
    match hr : runV row e [] with
    | .error f =>
      rw [hr] at h
      simp only [m_R03_Eval, ln_map, res_test, res_stop, h1, decide_false, Bool.false_eq_true, if_false, eb, h, ok_some', out_some, beq_self_eq_true, if_true, uI_0, uI_s, uS_0, uS_s, lastV, nul]
    | .ok [] =>
      rw [hr] at h
      simp only [m_R03_Eval, ln_map, res_test, res_stop, h1, decide_false, Bool.false_eq_true, if_false, eb, h, ok_some', out_some, beq_self_eq_true, if_true, uI_0, uI_s, uS_0, uS_s, uL_0, uL_s, show ((0 : Nat) == 1) = false from rfl, show (ln (sv []) != 1) = true from rfl, lastV, nul]
    | .ok [x] =>
      rw [hr] at h
      have g1 : (ln (sv [x]) != 1) = false := rfl
      have g2 : inR 0 (ln (sv [x])) = true := rfl
      have g3 : decide (0 < (sv [x]).length) = true := rfl
      have g4 : List.getD (sv [x]) 0 [] = Val.e x := rfl
      simp only [m_R03_Eval, ln_map, res_test, res_stop, h1, decide_false, Bool.false_eq_true, if_false, eb, h, ok_some', out_some, beq_self_eq_true, if_true, uI_0, uI_s, uL_0, uL_s, show ((0 : Nat) == 1) = false from rfl, g1, g2, g3, g4, lastV]
      rfl
    | .ok (x :: y :: s) =>
      rw [hr] at h
      have g1 : (ln (sv (x :: y :: s)) != 1) = true := by rw [sv_ln, bne_iff_ne]; simp; omega
      simp only [m_R03_Eval, ln_map, res_test, res_stop, h1, decide_false, Bool.false_eq_true, if_false, eb, h, ok_some', out_some, beq_self_eq_true, if_true, uI_0, uI_s, uS_0, uS_s, uL_0, uL_s, show ((0 : Nat) == 1) = false from rfl, g1, lastV, nul]

/-! parts -/

end Go.Proofs.YtikmahlogjcieaaGreat
