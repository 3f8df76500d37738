/- The pure machine, fifth part: operations that change nothing. -/
import Derived.Test.YtkaljlpbmbfpgaaGreatDoorRD
set_option linter.unusedSimpArgs false
namespace Go.Pu

section
variable {P : Program} {E : Env}

theorem rep_const1 (v : Value) : Rep P E (ofConst1 v) v := by
 unfold ofConst1
 split <;> constructor

theorem rep_const (v : Value) : Rep P E (ofConst v) v := by
 unfold ofConst
 split
 ·rename_i cs
  refine .agg _ _ (by simp) fun i hi => ?_
  have hi' : i < cs.size := by simpa using hi
  have h1 : (cs.toList.map ofConst1).getD i .top = ofConst1 (cs.getD i undef) := by simp [List.getD, Array.getD, hi']
  rw [h1]
  exact rep_const1 _
 ·exact rep_const1 _

/-- the temporaries are told -/
structure RepT (P : Program) (E : Env) (ts : List PV) (a : Act) : Prop where
 len : ts.length = a.tmps.size
 rep : ∀ i, i < ts.length → Rep P E (ts.getD i .top) (a.tmps.getD i undef)

theorem RepT.mono {E' : Env} (hI : Inv P E) (h : Trans E E') {ts : List PV} {a : Act} (hT : RepT P E ts a) : RepT P E' ts a :=
 ⟨hT.len, fun i hi => (hT.rep i hi).mono hI h⟩

theorem RepT.ev {ts : List PV} {a : Act} (hT : RepT P E ts a) (x : Operand) : Rep P E (ev ts x) (a.eval x) := by
 cases x with
 | tmp t =>
  simp only [Go.Pu.ev, Act.eval]
  rcases Nat.lt_or_ge t ts.length with h | h
  ·exact hT.rep t h
  ·rw [List.getD, List.getElem?_eq_none h]
   exact .top _
 | const v => exact rep_const v
 | global g => exact .top _
 | func f => exact .fn f [] #[] rfl (fun i hi => by simp at hi)

theorem getD_set_same {α : Type} (l : List α) (d : Nat) (x z : α) (h : d < l.length) : (l.set d x).getD d z = x := by
 simp [List.getD, List.getElem?_set, h]

theorem getD_set_other {α : Type} (l : List α) (d i : Nat) (x z : α) (h : d ≠ i) : (l.set d x).getD i z = l.getD i z := by
 simp [List.getD, List.getElem?_set, h]

theorem RepT.put {ts : List PV} {a : Act} (hT : RepT P E ts a) (d : Option Tmp) {x : PV} {v : Value} (hx : Rep P E x v) : RepT P E (put ts d x) (a.put d v) := by
 cases d with
 | none => exact hT
 | some d =>
  refine ⟨by simp [Go.Pu.put, Act.put, hT.len], fun i hi => ?_⟩
  have hi' : i < ts.length := by simpa [Go.Pu.put] using hi
  have hs : i < a.tmps.size := by rw [← hT.len]; exact hi'
  simp only [Go.Pu.put, Act.put]
  by_cases e : d = i
  ·subst e
   rw [getD_set_same _ _ _ _ hi']
   simp only [Array.getD, Array.size_setIfInBounds, hs, dif_pos]
   simpa using hx
  ·rw [getD_set_other _ _ _ _ _ e]
   have h1 : (a.tmps.setIfInBounds d v).getD i undef = a.tmps.getD i undef := by
    simp [Array.getD, hs, Array.getElem_setIfInBounds, e]
   rw [h1]
   exact hT.rep i hi'

/-- a place that is told anew, of the same value -/
theorem RepT.re {ts : List PV} {a : Act} (hT : RepT P E ts a) (d : Nat) {x : PV} (hx : Rep P E x (a.tmps.getD d undef)) : RepT P E (ts.set d x) a := by
 refine ⟨by simp [hT.len], fun i hi => ?_⟩
 have hi' : i < ts.length := by simpa using hi
 by_cases e : d = i
 ·subst e
  rw [getD_set_same _ _ _ _ hi']
  exact hx
 ·rw [getD_set_other _ _ _ _ _ e]
  exact hT.rep i hi'

theorem Rep.bool_inv {b : Bool} {v : Value} (h : Rep P E (.bool b) v) : v = .bool b := by cases h; rfl
theorem Rep.int_inv {k : IntKind} {n : Int} {v : Value} (h : Rep P E (.int k n) v) : v = .int k n := by cases h; rfl
theorem Rep.str_inv {s : ByteArray} {v : Value} (h : Rep P E (.str s) v) : v = .string s := by cases h; rfl
theorem Rep.nils_inv {v : Value} (h : Rep P E .nils v) : v = .slice none 0 0 := by cases h; rfl

theorem strOp_run {op : BinOp} {x y : ByteArray} {r : PV} (h : strOp op x y = some r) (w : World) : ∃ v, (Op.stringOp op x y).run P w = .ok v w ∧ Rep P E r v := by
 unfold strOp at h
 cases op <;> simp only [Option.some.injEq, reduceCtorEq] at h
 case add =>
  split at h
  ·rename_i hc
   obtain rfl := Option.some.inj h
   refine ⟨.string (x ++ y), ?_, .str _⟩
   have : ¬ ((x.size + y.size : Nat) : Int) > IntKind.i64.max := by
    have : IntKind.i64.max = 9223372036854775807 := by decide
    rw [this]; omega
   unfold Op.stringOp
   simp only []
   rw [if_neg this]
   rfl
  ·simp at h
 all_goals
  subst h
  exact ⟨_, rfl, .bool _⟩

theorem bitsOp_run {op : BinOp} {k : IntKind} {a b : Int} {r : PV} (h : bitsOp op k a b = some r) (w : World) : ∃ v, (Op.intBits op k a b).run P w = .ok v w ∧ Rep P E r v := by
 unfold bitsOp at h
 cases op <;> simp only [Option.some.injEq, reduceCtorEq] at h
 all_goals
  subst h
  exact ⟨_, rfl, .int _ _⟩

theorem shiftOp_run {op : BinOp} {k yk : IntKind} {a b : Int} {r : PV} (h : shiftOp op k a b = some r) (w : World) : ∃ v, (Op.shift op k a yk b).run P w = .ok v w ∧ Rep P E r v := by
 unfold shiftOp at h
 split at h
 ·simp at h
 ·rename_i hb
  unfold Op.shift
  rw [if_neg hb]
  cases op <;> simp only [Option.some.injEq, reduceCtorEq] at h
  all_goals
   subst h
   exact ⟨_, rfl, .int _ _⟩

theorem part_ok {t : TypeId} {cs : List PV} {off : Nat} {x : PV} (h : part P t cs off = some x) {vs : Array Value} (hv : Rep P E (.agg cs) (.agg vs)) (w : World) :
  ∃ v, (Go.part t vs off).run P w = .ok v w ∧ Rep P E x v := by
 cases hv with
 | agg _ _ hl hr => exact part_rep w h hl hr

theorem eqFs_run {rec : TypeId → PV → PV → Option Bool} {d : Nat} (hrec : ∀ t x y r, rec t x y = some r → ∀ vx vy, Rep P E x vx → Rep P E y vy → ∀ w, (Op.equalIn d t vx vy).run P w = .ok r w)
  {xs ys : List PV} {vx vy : Array Value} (hx : Rep P E (.agg xs) (.agg vx)) (hy : Rep P E (.agg ys) (.agg vy)) :
  ∀ (fs : List Field) (r : Bool), eqFs P rec xs ys fs = some r → ∀ w, (Op.eqFields d vx vy fs).run P w = .ok r w
 | [], r, h, w => by simp [eqFs] at h; subst h; simp [Op.eqFields]
 | f :: fs, r, h, w => by
  simp only [eqFs] at h
  simp only [Op.eqFields, Sem.run_ite]
  split at h
  ·rename_i hn
   rw [if_neg (by simpa using hn)]
   exact eqFs_run hrec hx hy fs r h w
  ·rename_i hn
   rw [if_pos hn]
   cases ha : part P f.type xs f.offset with
   | none => simp [ha] at h
   | some a =>
    cases hb : part P f.type ys f.offset with
    | none => simp [ha, hb] at h
    | some b =>
     cases hr : rec f.type a b with
     | none => simp [ha, hb, hr] at h
     | some q =>
      cases hs : eqFs P rec xs ys fs with
      | none => simp [ha, hb, hr, hs] at h
      | some s =>
       simp only [ha, hb, hr, hs, Option.bind_some, Option.some.injEq] at h
       obtain ⟨va, e1, r1⟩ := part_ok ha hx w
       obtain ⟨vb, e2, r2⟩ := part_ok hb hy w
       have e3 := hrec _ _ _ _ hr _ _ r1 r2 w
       simp only [Sem.run_bind, e1, e2, e3, Result.andThen_ok, Sem.run_ite]
       cases q
       ·simp at h; subst h; simp
       ·simp at h; subst h
        simp only [Bool.not_true, Bool.false_eq_true, if_false]
        exact eqFs_run hrec hx hy fs s hs w

theorem eqAt_run : ∀ (n d : Nat) (t : TypeId) (x y : PV) (r : Bool), eqAt P n t x y = some r → n ≤ d → ∀ vx vy, Rep P E x vx → Rep P E y vy → ∀ w, (Op.equalIn d t vx vy).run P w = .ok r w
 | 0, _, _, _, _, _, h, _, _, _, _, _, _ => by simp [eqAt] at h
 | n + 1, 0, _, _, _, _, _, hd, _, _, _, _, _ => by omega
 | n + 1, d + 1, t, x, y, r, h, hd, vx, vy, hx, hy, w => by
  simp only [eqAt] at h
  cases hu : P.underlying t with
  | none => rw [hu] at h; simp at h
  | some u =>
   rw [hu] at h
   cases u <;> (try simp only [reduceCtorEq] at h)
   case bool =>
    cases x <;> cases y <;> simp only [reduceCtorEq, Option.some.injEq] at h
    obtain rfl := hx.bool_inv
    obtain rfl := hy.bool_inv
    subst h
    exact run_equalIn_bool' w d t _ _ hu
   case int =>
    cases x <;> cases y <;> simp only [reduceCtorEq] at h
    obtain rfl := hx.int_inv
    obtain rfl := hy.int_inv
    split at h
    ·rename_i e
     subst e
     obtain rfl := Option.some.inj h
     exact run_equalIn_int w d t _ _ _ _ hu
    ·simp at h
   case string =>
    cases x <;> cases y <;> simp only [reduceCtorEq, Option.some.injEq] at h
    obtain rfl := hx.str_inv
    obtain rfl := hy.str_inv
    subst h
    exact run_equalIn_string w d t _ _ hu
   case struct fs =>
    cases x <;> cases y <;> simp only [reduceCtorEq] at h
    split at h
    ·simp at h
    ·rename_i hst
     cases hx with
     | agg _ vx hlx hrx =>
      cases hy with
      | agg _ vy hly hry =>
       have hf : P.fieldsOf t = fs := by simp [Program.fieldsOf, hu]
       rw [run_equalIn_struct w d t vx vy (by rw [hf]; exact hu) (by simpa using hst), hf]
       exact eqFs_run (fun t x y r h vx vy hx hy w => eqAt_run n d t x y r h (by omega) vx vy hx hy w) (.agg _ _ hlx hrx) (.agg _ _ hly hry) _ _ h w

theorem intOp_run {op : BinOp} {k : IntKind} {a b : Int} {r : PV} (h : intOp op k a b = some r) (hs : op ≠ .shl ∧ op ≠ .shr) (t : TypeId) (w : World) :
  ∃ v, (Go.binOp op t (.int k a) (.int k b)).run P w = .ok v w ∧ Rep P E r v := by
 unfold intOp at h
 cases op <;> (try simp only [Option.some.injEq] at h) <;> (try (exact absurd rfl hs.1)) <;> (try (exact absurd rfl hs.2))
 case add => subst h; exact ⟨_, by simp [Go.binOp, Op.intArith], .int _ _⟩
 case sub => subst h; exact ⟨_, by simp [Go.binOp, Op.intArith], .int _ _⟩
 case mul => subst h; exact ⟨_, by simp [Go.binOp, Op.intArith], .int _ _⟩
 case quo =>
  split at h
  ·simp at h
  ·rename_i hb
   obtain rfl := Option.some.inj h
   exact ⟨_, by simp [Go.binOp, Op.intDiv, hb], .int _ _⟩
 case rem =>
  split at h
  ·simp at h
  ·rename_i hb
   obtain rfl := Option.some.inj h
   exact ⟨_, by simp [Go.binOp, Op.intDiv, hb], .int _ _⟩
 case and => obtain ⟨v, h1, h2⟩ := bitsOp_run (P := P) (E := E) h w; exact ⟨v, by simpa [Go.binOp] using h1, h2⟩
 case or => obtain ⟨v, h1, h2⟩ := bitsOp_run (P := P) (E := E) h w; exact ⟨v, by simpa [Go.binOp] using h1, h2⟩
 case xor => obtain ⟨v, h1, h2⟩ := bitsOp_run (P := P) (E := E) h w; exact ⟨v, by simpa [Go.binOp] using h1, h2⟩
 case andNot => obtain ⟨v, h1, h2⟩ := bitsOp_run (P := P) (E := E) h w; exact ⟨v, by simpa [Go.binOp] using h1, h2⟩
 case eql => subst h; exact ⟨_, by simp [Go.binOp, Op.intCmp], .bool _⟩
 case neq => subst h; exact ⟨_, by simp [Go.binOp, Op.intCmp], .bool _⟩
 case lss => subst h; exact ⟨_, by simp [Go.binOp, Op.intCmp], .bool _⟩
 case leq => subst h; exact ⟨_, by simp [Go.binOp, Op.intCmp], .bool _⟩
 case gtr => subst h; exact ⟨_, by simp [Go.binOp, Op.intCmp], .bool _⟩
 case geq => subst h; exact ⟨_, by simp [Go.binOp, Op.intCmp], .bool _⟩

theorem equalIn_nil {t e : TypeId} (hu : P.underlying t = some (.slice e)) (d : Nat) (w : World) : (Op.equalIn (d + 1) t (.slice none 0 0) (.slice none 0 0)).run P w = .ok true w := by
 simp [Op.equalIn, run_underlying hu]

theorem eqOp_run {t : TypeId} {x y : PV} {r : Bool} (h : eqOp P t x y = some r) {vx vy : Value} (hx : Rep P E x vx) (hy : Rep P E y vy) (w : World) (X Y : Operand) :
  (∀ op, (eqGuard op t X Y vx vy).run P w = .ok () w) ∧ (Go.binOp .eql t vx vy).run P w = .ok (.bool r) w ∧ (Go.binOp .neq t vx vy).run P w = .ok (.bool (!r)) w := by
 unfold eqOp at h
 cases x <;> cases y <;> simp only [reduceCtorEq] at h
 case bool.bool a b =>
  obtain rfl := hx.bool_inv
  obtain rfl := hy.bool_inv
  have h1 := eqAt_run (P := P) (E := E) 1 Op.maxDepth t _ _ r h (by decide) _ _ (.bool a) (.bool b) w
  refine ⟨fun op => by cases op <;> simp [eqGuard], ?_, ?_⟩ <;> simp [Go.binOp, Op.equal, h1]
 case agg.agg xs ys =>
  split at h
  ·simp at h
  ·rename_i hg
   cases hx with
   | agg _ vx hlx hrx =>
    cases hy with
    | agg _ vy hly hry =>
     have h1 := eqAt_run (P := P) (E := E) 6 10000 t _ _ r h (by decide) _ _ (.agg _ _ hlx hrx) (.agg _ _ hly hry) w
     refine ⟨fun op => run_eqGuard_agg w op t X Y _ _ (by simpa using hg), ?_, ?_⟩
     ·rw [run_eql_struct, h1]; rfl
     ·rw [run_neq_struct, h1]; rfl
 case lst.nils u es =>
  cases es with
  | nil => simp at h
  | cons c es =>
   obtain rfl := hy.nils_inv
   simp only at h
   split at h
   ·rename_i hu
    obtain rfl := Option.some.inj h
    cases hx with
    | lst _ _ blk o cap sz cc T fz =>
     have h0 : ∀ d n, (Op.equalIn (d + 1) t (.slice (some ⟨blk, o, none⟩) n cap) (.slice none 0 0)).run P w = .ok false w := fun d n => by simp [Op.equalIn, run_underlying hu]
     have h1 : ∀ n, (Op.equal t (.slice (some ⟨blk, o, none⟩) n cap) (.slice none 0 0)).run P w = .ok false w := h0 9999
     refine ⟨fun op => by cases op <;> simp [eqGuard], ?_, ?_⟩ <;> simp [Go.binOp, h1]
   ·simp at h
 case new.nils u es =>
  cases es with
  | nil => simp at h
  | cons c es =>
   obtain rfl := hy.nils_inv
   simp only at h
   split at h
   ·rename_i hu
    obtain rfl := Option.some.inj h
    cases hx with
    | zany _ _ _ A cap hA =>
     obtain ⟨a, rfl⟩ : ∃ a, A = some a := by cases A with
      | none => exact absurd rfl hA
      | some a => exact ⟨a, rfl⟩
     have h0 : ∀ d n, (Op.equalIn (d + 1) t (.slice (some a) n cap) (.slice none 0 0)).run P w = .ok false w := fun d n => by simp [Op.equalIn, run_underlying hu]
     have h1 : ∀ n, (Op.equal t (.slice (some a) n cap) (.slice none 0 0)).run P w = .ok false w := h0 9999
     refine ⟨fun op => by cases op <;> simp [eqGuard], ?_, ?_⟩ <;> simp [Go.binOp, h1]
   ·simp at h
 case nils.nils =>
  obtain rfl := hx.nils_inv
  obtain rfl := hy.nils_inv
  split at h
  ·rename_i hu
   obtain rfl := Option.some.inj h
   have h1 : (Op.equal t (.slice none 0 0) (.slice none 0 0)).run P w = .ok true w := equalIn_nil hu 9999 w
   refine ⟨fun op => by cases op <;> simp [eqGuard], ?_, ?_⟩ <;> simp [Go.binOp, h1]
  ·simp at h

theorem binOp_run {op : BinOp} {t : TypeId} {x y r : PV} (h : binOp P op t x y = some r) {vx vy : Value} (hx : Rep P E x vx) (hy : Rep P E y vy) (w : World) (X Y : Operand) :
  ∃ v, (do eqGuard op t X Y vx vy; Go.binOp op t vx vy : Sem Value).run P w = .ok v w ∧ Rep P E r v := by
 unfold binOp at h
 split at h
 ·rename_i k a k' b
  obtain rfl := hx.int_inv
  obtain rfl := hy.int_inv
  have hg : (eqGuard op t X Y (.int k a) (.int k' b)).run P w = .ok () w := by cases op <;> simp [eqGuard]
  simp only [Sem.run_bind, hg, Result.andThen_ok]
  split at h
  ·obtain ⟨v, h1, h2⟩ := shiftOp_run (P := P) (E := E) (yk := k') h w
   exact ⟨v, by simpa [Go.binOp] using h1, h2⟩
  ·obtain ⟨v, h1, h2⟩ := shiftOp_run (P := P) (E := E) (yk := k') h w
   exact ⟨v, by simpa [Go.binOp] using h1, h2⟩
  ·rename_i hn1 hn2
   split at h
   ·rename_i e
    subst e
    exact intOp_run h ⟨fun e => hn1 e, fun e => hn2 e⟩ t w
   ·simp at h
 ·rename_i a b
  obtain rfl := hx.str_inv
  obtain rfl := hy.str_inv
  have hg : (eqGuard op t X Y (.string a) (.string b)).run P w = .ok () w := by cases op <;> simp [eqGuard]
  simp only [Sem.run_bind, hg, Result.andThen_ok]
  obtain ⟨v, h1, h2⟩ := strOp_run (P := P) (E := E) h w
  refine ⟨v, ?_, h2⟩
  cases op <;> simpa [Go.binOp] using h1
 ·split at h
  ·cases he : eqOp P t x y with
   | none => simp [he] at h
   | some b =>
    simp only [he, Option.map_some, Option.some.injEq] at h
    subst h
    obtain ⟨h1, h2, _⟩ := eqOp_run he hx hy w X Y
    exact ⟨_, by simp only [Sem.run_bind, h1, Result.andThen_ok, h2], .bool _⟩
  ·cases he : eqOp P t x y with
   | none => simp [he] at h
   | some b =>
    simp only [he, Option.map_some, Option.some.injEq] at h
    subst h
    obtain ⟨h1, _, h3⟩ := eqOp_run he hx hy w X Y
    exact ⟨_, by simp only [Sem.run_bind, h1, Result.andThen_ok, h3], .bool _⟩
  ·simp at h

theorem unOp_run {op : UnOp} {x r : PV} (h : unOp op x = some r) {vx : Value} (hx : Rep P E x vx) (w : World) : ∃ v, (Op.unary op vx).run P w = .ok v w ∧ Rep P E r v := by
 unfold unOp at h
 split at h
 ·obtain rfl := hx.int_inv
  obtain rfl := Option.some.inj h
  exact ⟨_, by simp [Op.unary, Op.intArith], .int _ _⟩
 ·obtain rfl := hx.int_inv
  obtain ⟨v, h1, h2⟩ := bitsOp_run (P := P) (E := E) h w
  exact ⟨v, by simpa [Op.unary] using h1, h2⟩
 ·obtain rfl := hx.bool_inv
  obtain rfl := Option.some.inj h
  exact ⟨_, by simp [Op.unary], .bool _⟩
 ·simp at h

end
end Go.Pu
