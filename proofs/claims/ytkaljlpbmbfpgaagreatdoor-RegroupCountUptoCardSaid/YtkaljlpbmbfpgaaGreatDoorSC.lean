/- The pure machine, twenty-ninth part: functions. -/
import Derived.Test.YtkaljlpbmbfpgaaGreatDoorSB
set_option linter.unusedSimpArgs false
set_option linter.unusedVariables false
namespace Go.Pu

section
variable {P : Program} {E : Env}

theorem loadOp_alive {t : TypeId} {h : Heap} {a x : PV} (hl : loadOp P t h a = some x) : aliveP h a = true := by
 cases a <;> simp only [loadOp, reduceCtorEq] at hl <;> simp only [aliveP]
 ·split at hl
  ·rfl
  ·cases hl
 ·split at hl
  ·rfl
  ·cases hl

theorem resVal_run (hI : Inv P E) {ts : List PV} {a : Act} (hT : RepT P E ts a) {x : ResultVar} {y : PV} (h : resVal P ts E.h x = some y) :
  ∃ u, (match x with | .tmp t => (pure (a.tmps.getD t undef) : Sem Value) | .cell b t => do loadVar t (← asAddr (a.tmps.getD b undef))).run P E.w = .ok u E.w ∧ Rep P E y u := by
 have rep : ∀ t, Rep P E (ts.getD t .top) (a.tmps.getD t undef) := fun t => by
  rcases Nat.lt_or_ge t ts.length with hh | hh
  ·exact hT.rep t hh
  ·rw [List.getD, List.getElem?_eq_none hh]; exact .top _
 cases x with
 | tmp t =>
  simp only [resVal, Option.some.injEq] at h
  subst h
  exact ⟨_, rfl, rep t⟩
 | cell b t =>
  simp only [resVal] at h
  obtain ⟨u, e1, e2⟩ := loadOp_run hI h (rep b)
  obtain ⟨blk, k, hv⟩ := alive_ptr (loadOp_alive h) (rep b)
  refine ⟨u, ?_, e2⟩
  rw [hv] at e1
  simp only [hv]
  simpa [Instr.loadAt, Instr.sureAddr, asAddr] using e1

theorem mapO_run {α : Type} {g : α → Option PV} {f : α → Sem Value} (w : World) : ∀ {xs : List α} {ys : List PV}, mapO g xs = some ys → (∀ x y, g x = some y → ∃ u, (f x).run P w = .ok u w ∧ Rep P E y u) →
  ∃ us, (xs.mapM f).run P w = .ok us w ∧ RepL P E ys us
 | [], ys, h, _ => by
  simp only [mapO, Option.some.injEq] at h
  subst h
  exact ⟨[], by simp, rfl, fun i hi => by cases hi⟩
 | x :: xs, ys, h, hf => by
  simp only [mapO] at h
  cases hx : g x with
  | none => rw [hx] at h; cases h
  | some y =>
   rw [hx] at h
   cases hxs : mapO g xs with
   | none => simp [hxs] at h
   | some ys' =>
    simp [hxs] at h
    subst h
    obtain ⟨u, e1, e2⟩ := hf x y hx
    obtain ⟨us, f1, f2, f3⟩ := mapO_run w hxs hf
    refine ⟨u :: us, by simp [List.mapM_cons, e1, f1], by simp [f2], fun i hi => ?_⟩
    cases i with
    | zero => simpa using e2
    | succ i => simpa using f3 i (by simpa using hi)

theorem results_run (hI : Inv P E) {ts : List PV} {a : Act} (hT : RepT P E ts a) {fn : Func} {vs : List PV} (h : mapO (resVal P ts E.h) fn.results.toList = some vs) :
  ∃ v, (results fn a.tmps).run P E.w = .ok v E.w ∧ Rep P E (oneOf vs) v := by
 obtain ⟨us, e1, e2⟩ := mapO_run (f := fun x => match x with | .tmp t => (pure (a.tmps.getD t undef) : Sem Value) | .cell b t => do loadVar t (← asAddr (a.tmps.getD b undef))) E.w h (fun x y hx => resVal_run hI hT hx)
 refine ⟨if h : us.toArray.size = 1 then us.toArray[0] else .tuple us.toArray, ?_, ?_⟩
 ·unfold results
  rw [Array.mapM_eq_mapM_toList]
  simp only [Sem.run_bind, Sem.run_map]
  refine (congrArg (fun q : Result (List Value) => (q.andThen fun a w' => Result.ok a.toArray w').andThen fun a w' => Sem.run P (pure (if h : a.size = 1 then a[0] else Value.tuple a)) w') e1).trans ?_
  rfl
 ·obtain ⟨hl, hr⟩ := e2
  clear h e1
  match vs, us, hl, hr with
  | [x], [u], _, hr => simpa [oneOf] using hr 0 (by simp)
  | [], [], _, _ => exact .tuple [] #[] rfl (fun i hi => by cases hi)
  | x :: y :: xs, u :: v :: us, hl, hr =>
   simp only [List.size_toArray, List.length_cons]
   rw [dif_neg (by omega)]
   refine .tuple _ _ (by simpa using hl) fun i hi => ?_
   simpa [List.getD] using hr i hi

/-- what is said of functions that are given, not looked into -/
def XOK (P : Program) (X : Ext) : Prop :=
 ∀ f g xs hc r, X f = some g → (g xs hc).val = some r → (∃ fn, P.funcs[f]? = some fn ∧ fn.body.isSome = true) ∧
  ∀ (E : Env) (vs : List Value), E.h = hc → (∀ b : Nat, b < hc.length → okBlk (hc.getD b .res) = true) → Inv P E → RepL P E xs vs →
   Calls P f vs.toArray E.w fun e w' => ∃ v E', e = .returned v ∧ E'.w = w' ∧ E'.h = r.2 ∧ TransK hc.length E E' ∧ Inv P E' ∧ Rep P E' r.1 v

theorem call_ok (hm : P.follows .mixedOrders = true) (hN : Named P) {X : Ext} (hX : XOK P X) (M : FuncId → Bool) (L : FuncId → Nat → Option (List Nat)) : ∀ n, CallsOK P (call P X M L n)
 | 0 => fun f xs hc r hc' h => by simp [call] at h
 | n + 1 => fun f xs hc r hc' h => by
  have ih := call_ok hm hN hX M L n
  simp only [call] at h
  split at h
  ·rename_i g hg
   exact hX f g xs hc (r, hc') hg h
  ·split at h
   ·cases h
   ·rename_i fn hfn
    split at h
    ·cases h
    ·rename_i body hb
     refine ⟨⟨fn, hfn, by rw [hb]; rfl⟩, fun E vs hE hok hI hL => ?_⟩
     subst hE
     refine calls_of_wp hfn hb ?_
     have hS : Sim P E.h.length E (xs ++ List.replicate (fn.ntmps - xs.length) .top, E.h) { tmps := vs.toArray ++ Array.replicate (fn.ntmps - vs.toArray.size) undef, defers := [] } E.w := by
      refine ⟨E, rfl, rfl, (Trans.refl E).toK (Nat.le_refl _), hI, ⟨by simp [hL.1], fun i hi => ?_⟩, rfl⟩
      by_cases hlt : i < xs.length
      ·have h2 : i < vs.length := by rw [← hL.1]; exact hlt
       have := hL.2 i hlt
       simp only [List.getD, List.getElem?_append_left hlt] at this ⊢
       have e : (vs.toArray ++ Array.replicate (fn.ntmps - vs.toArray.size) undef).getD i undef = (vs[i]?).getD undef := by
        simp [Array.getD, h2, Array.getElem_append]
        intro hh; omega
       rw [e]
       exact this
      ·have e : (xs ++ List.replicate (fn.ntmps - xs.length) PV.top).getD i .top = .top := by
        rw [List.getD, List.getElem?_append_right (by omega), List.getElem?_replicate]
        split <;> rfl
       rw [e]; exact .top _
     refine wp_mono (run_wp hm hN ih body _ _ _ _ _ h hS) ?_
     rintro e a' w' ⟨z, σ, hz, hS', hk⟩
     have fin : finish P fn E.h.length σ.1 σ.2 = some (r, hc') → a'.defers = [] ∧ ∃ v, (results fn a'.tmps).run P w' = .ok v w' ∧
       ∃ u E', Ending.returned v = .returned u ∧ E'.w = w' ∧ E'.h = hc' ∧ TransK E.h.length E E' ∧ Inv P E' ∧ Rep P E' r u := by
      intro hk
      obtain ⟨Ef, rfl, hh, hK, hIf, hTf, hD⟩ := hS'
      rw [← hh] at hk
      unfold finish at hk
      cases hvs : mapO (resVal P σ.1 Ef.h) fn.results.toList with
      | none => rw [hvs] at hk; cases hk
      | some rs =>
       rw [hvs] at hk
       simp only [Option.bind_some] at hk
       obtain ⟨v, e1, e2⟩ := results_run hIf hTf hvs
       generalize hraw : oneOf rs = raw at *
       cases hr : reach Ef.h (List.range E.h.length ++ refsR raw) with
       | none => rw [hr] at hk; cases hk
       | some ids =>
        rw [hr] at hk
        simp only [Option.bind_some] at hk
        split at hk
        ·rename_i hc
         simp only [Bool.and_eq_true, decide_eq_true_eq] at hc
         simp only [Option.some.injEq, Prod.mk.injEq] at hk
         obtain ⟨rfl, rfl⟩ := hk
         have hR := reach_spec hr
         exact ⟨hD, v, e1, v, Ef.sub ids, rfl, rfl, rfl, hK.trans (sub_transK hR hc.2), sub_inv hIf hR, e2.renR (sub_rn hR) hc.1 fun b hb => hR.rt b (List.mem_append_right _ hb)⟩
        ·cases hk
     cases z with
     | normal => cases hz; exact fin hk
     | exit i => cases hk
     | ret => cases hz; exact fin hk

end
end Go.Pu
