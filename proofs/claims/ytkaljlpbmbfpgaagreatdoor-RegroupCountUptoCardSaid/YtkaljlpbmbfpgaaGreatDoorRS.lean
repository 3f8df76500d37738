/- The pure machine, nineteenth part: every operation. -/
import Derived.Test.YtkaljlpbmbfpgaaGreatDoorRR
set_option linter.unusedSimpArgs false
namespace Go.Pu

section
variable {P : Program} {E : Env}

def OpPost (P : Program) (E : Env) (h' : Heap) (x : PV) (d : Option Tmp) (a : Act) : Act → World → Prop :=
 fun a' w' => ∃ v E', a' = a.put d v ∧ E'.w = w' ∧ E'.h = h' ∧ Trans E E' ∧ Inv P E' ∧ Rep P E' x v

theorem value_wp {o : Oper} {a : Act} {s : Sem Value} {v : Value} {w' : World} {h' : Heap} {x : PV} {Q : Exit → Act → World → Prop} (he : execOp a.eval o = (do pure (Next.value (← s)))) (hs : s.run P E.w = .ok v w') (hr : Res P E h' x v w') :
  o.wp P a E.w (OpPost P E h' x o.dst a) Q := by
 unfold Oper.wp
 rw [he]
 simp only [Sem.run_bind, hs, Result.andThen_ok, Sem.run_pure, Oper.upon_value]
 obtain ⟨E', e1, e2, e3, e4, e5⟩ := hr
 exact ⟨v, E', rfl, e1, e2, e3, e4, e5⟩

theorem keep_some {h h' : Heap} {r : Option PV} {x : PV} (hk : keep h r = some (x, h')) : r = some x ∧ h' = h := by
 unfold keep at hk
 cases r with
 | none => simp at hk
 | some y => simp at hk; exact ⟨by rw [hk.1], hk.2.symm⟩

theorem RepT.evo {ts : List PV} {a : Act} (hT : RepT P E ts a) (x : Option Operand) : (∀ p, evo ts x = some p → ∃ u, x.map a.eval = some u ∧ Rep P E p u) ∧ (evo ts x = none → x.map a.eval = none) := by
 cases x with
 | none => exact ⟨fun p h => by simp [Go.Pu.evo] at h, fun _ => rfl⟩
 | some y =>
  refine ⟨fun p h => ?_, fun h => by simp [Go.Pu.evo] at h⟩
  simp [Go.Pu.evo] at h
  subst h
  exact ⟨_, rfl, hT.ev y⟩

theorem RepT.evp {ts : List PV} {a : Act} (hT : RepT P E ts a) (ps : Array (Nat × Operand)) :
  (evp ts ps).length = (ps.map fun p => (p.1, a.eval p.2)).size ∧ ∀ (j : Nat) (p : Nat × PV), (evp ts ps)[j]? = some p → ∃ q : Nat × Value, (ps.map fun p => (p.1, a.eval p.2)).toList[j]? = some q ∧ q.1 = p.1 ∧ Rep P E p.2 q.2 := by
 refine ⟨by simp [Go.Pu.evp], fun j p hp => ?_⟩
 simp only [Go.Pu.evp, List.getElem?_map] at hp
 cases hj : ps.toList[j]? with
 | none => simp [hj] at hp
 | some q =>
  simp [hj] at hp
  subst hp
  refine ⟨(q.1, a.eval q.2), ?_, rfl, hT.ev _⟩
  simp only [Array.toList_map, List.getElem?_map, hj]
  rfl

theorem RepT.evs {ts : List PV} {a : Act} (hT : RepT P E ts a) (xs : Array Operand) : RepL P E (evs ts xs) (xs.map a.eval).toList := by
 refine ⟨by simp [Go.Pu.evs], fun i hi => ?_⟩
 have hi' : i < xs.toList.length := by simpa [Go.Pu.evs] using hi
 have e1 : (Go.Pu.evs ts xs).getD i .top = Go.Pu.ev ts xs.toList[i] := by simp only [Go.Pu.evs, List.getD, List.getElem?_map, List.getElem?_eq_getElem hi']; rfl
 have e2 : (xs.map a.eval).toList.getD i undef = a.eval xs.toList[i] := by simp only [Array.toList_map, List.getD, List.getElem?_map, List.getElem?_eq_getElem hi']; rfl
 rw [e1, e2]
 exact hT.ev _

theorem minmax_run {mx : Bool} {x y r : PV} (h : minmax mx x y = some r) {vx vy : Value} (hx : Rep P E x vx) (hy : Rep P E y vy) (w : World) :
  ∃ v, ((if mx then Builtin.max2 else Builtin.min2) vx vy).run P w = .ok v w ∧ Rep P E r v := by
 unfold minmax at h
 split at h
 ·obtain rfl := hx.int_inv
  obtain rfl := hy.int_inv
  split at h
  ·cases h
   cases mx
   ·exact ⟨_, by simp [Builtin.min2], .int _ _⟩
   ·exact ⟨_, by simp [Builtin.max2], .int _ _⟩
  ·simp at h
 ·simp at h

theorem minmaxs_run {mx : Bool} : ∀ {xs : List PV} {vs : List Value} {x r : PV} {vx : Value}, xs.foldl (fun acc y => acc.bind fun a => minmax mx a y) (some x) = some r → RepL P E xs vs → Rep P E x vx → ∀ w, ∃ v, (vs.foldlM (if mx then Builtin.max2 else Builtin.min2) vx).run P w = .ok v w ∧ Rep P E r v
 | [], vs, x, r, vx, h, hl, hx, w => by
  have : vs = [] := List.eq_nil_of_length_eq_zero (by rw [← hl.1]; rfl)
  subst this
  simp at h
  subst h
  exact ⟨vx, by simp, hx⟩
 | y :: xs, [], _, _, _, _, hl, _, _ => by have := hl.1; simp at this
 | y :: xs, v :: vs, x, r, vx, h, hl, hx, w => by
  simp only [List.foldl_cons, Option.bind_some] at h
  cases hm : minmax mx x y with
  | none =>
   rw [hm] at h
   have : ∀ (l : List PV), l.foldl (fun acc y => acc.bind fun a => minmax mx a y) none = none := by intro l; induction l <;> simp_all
   rw [this] at h
   cases h
  | some z =>
   rw [hm] at h
   obtain ⟨u, e1, e2⟩ := minmax_run (P := P) (E := E) hm hx (by simpa using hl.2 0 (by simp)) w
   obtain ⟨u2, f1, f2⟩ := minmaxs_run (vs := vs) h ⟨by have := hl.1; simpa using this, fun i hi => by simpa using hl.2 (i + 1) (by simp; exact hi)⟩ e2 w
   refine ⟨u2, ?_, f2⟩
   simp only [List.foldlM_cons, Sem.run_bind, e1, Result.andThen_ok, f1]

theorem builtin_wp {al : Option Nat} {ts : List PV} {a : Act} {o : Oper} {c : Go.Call} {b : Builtin} {x : PV} {h' : Heap} {Q : Exit → Act → World → Prop} (ho : o.op = .call c) (hc : c.callee = .builtin b)
  (h : builtinOp P b c.argTypes al E.h (evs ts c.args) = some (x, h')) (hI : Inv P E) (hT : RepT P E ts a) (hal : AlOK E.h al) : o.wp P a E.w (OpPost P E h' x o.dst a) Q := by
 have hL := hT.evs c.args
 generalize hvs : (c.args.map a.eval).toList = vs at hL
 have hargs : c.args.map a.eval = vs.toArray := by rw [← hvs]
 have two : ∀ {y z : PV}, evs ts c.args = [y, z] → ∃ u v, vs = [u, v] ∧ Rep P E y u ∧ Rep P E z v := by
  intro y z he
  rw [he] at hL
  match vs, hL with
  | [u, v], hL => exact ⟨u, v, rfl, by simpa using hL.2 0 (by simp), by simpa using hL.2 1 (by simp)⟩
  | [], hL => have := hL.1; simp at this
  | [_], hL => have := hL.1; simp at this
  | _ :: _ :: _ :: _, hL => have := hL.1; simp at this
 unfold builtinOp at h
 split at h
 ·rename_i y he
  split at h
  ·rename_i t ht
   cases hl : lenOp P t E.h y with
   | none => simp [hl] at h
   | some r =>
    simp [hl] at h
    obtain ⟨rfl, rfl⟩ := h
    have hv : ∃ u, vs = [u] ∧ Rep P E y u := by
     rw [he] at hL
     match vs, hL with
     | [u], hL => exact ⟨u, rfl, by simpa using hL.2 0 (by simp)⟩
     | [], hL => have := hL.1; simp at this
     | _ :: _ :: _, hL => have := hL.1; simp at this
    obtain ⟨u, rfl, hu⟩ := hv
    obtain ⟨v, e1, e2⟩ := lenOp_run hI hl hu o.type E.w
    have hlen : Builtin.len_ c.argTypes o.type #[u] = Builtin.len_ #[t] o.type #[u] := by simp [Builtin.len_, ht]
    refine value_wp (s := Builtin.len_ c.argTypes o.type #[u]) ?_ (by rw [hlen]; exact e1) (Res.same hI e2)
    simp [execOp, ho, resolve, hc, invoke, builtin, hargs]
  ·simp at h
 ·rename_i s y he
  obtain ⟨u, v, rfl, hu, hv⟩ := two he
  obtain ⟨r, w', e1, e2⟩ := appendOp_run hI h hal hu hv o.type
  refine value_wp (s := Builtin.append_ c.argTypes o.type #[u, v]) ?_ e1 e2
  simp [execOp, ho, resolve, hc, invoke, builtin, hargs]
 ·rename_i y rest he
  cases hm : rest.foldl (fun acc y => acc.bind fun a => minmax false a y) (some y) with
  | none => simp [hm] at h
  | some r =>
   simp [hm] at h
   obtain ⟨rfl, rfl⟩ := h
   rw [he] at hL
   match vs, hL, hargs with
   | [], hL, _ => have := hL.1; simp at this
   | u :: us, hL, hargs =>
    obtain ⟨v, e1, e2⟩ := minmaxs_run (P := P) (E := E) (mx := false) (vs := us) hm ⟨by have := hL.1; simpa using this, fun i hi => by simpa using hL.2 (i + 1) (by simp; exact hi)⟩ (by simpa using hL.2 0 (by simp)) E.w
    refine value_wp (s := Builtin.min_ c.argTypes o.type (u :: us).toArray) ?_ ?_ (Res.same hI e2)
    ·simp [execOp, ho, resolve, hc, invoke, builtin, hargs]
    ·simpa [Builtin.min_] using e1
 ·rename_i y rest he
  cases hm : rest.foldl (fun acc y => acc.bind fun a => minmax true a y) (some y) with
  | none => simp [hm] at h
  | some r =>
   simp [hm] at h
   obtain ⟨rfl, rfl⟩ := h
   rw [he] at hL
   match vs, hL, hargs with
   | [], hL, _ => have := hL.1; simp at this
   | u :: us, hL, hargs =>
    obtain ⟨v, e1, e2⟩ := minmaxs_run (P := P) (E := E) (mx := true) (vs := us) hm ⟨by have := hL.1; simpa using this, fun i hi => by simpa using hL.2 (i + 1) (by simp; exact hi)⟩ (by simpa using hL.2 0 (by simp)) E.w
    refine value_wp (s := Builtin.max_ c.argTypes o.type (u :: us).toArray) ?_ ?_ (Res.same hI e2)
    ·simp [execOp, ho, resolve, hc, invoke, builtin, hargs]
    ·simpa [Builtin.max_] using e1
 ·simp at h

end
end Go.Pu
