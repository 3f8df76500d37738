/- The pure machine, twentieth part: one operation. -/
import Derived.Test.YthmljoalohpafaaGreatDoorRS
set_option linter.unusedSimpArgs false
set_option linter.unusedVariables false
namespace Go.Pu

def Named (P : Program) : Prop := ∀ (f : FuncId) (fn : Func), P.funcs[f]? = some fn → fn.body.isSome = true → fn.name ≠ "runtime.NumGoroutine"

section
variable {P : Program} {E : Env}

theorem skip_wp {o : Oper} {a : Act} {s : Sem Unit} {w' : World} {h' : Heap} {Q : Exit → Act → World → Prop} (he : execOp a.eval o = (do s; pure .skip)) (hs : s.run P E.w = .ok () w') (hr : Step P E h' w' fun _ => True) :
    o.wp P a E.w (OpPost P E h' .top o.dst a) Q := by
  unfold Oper.wp
  rw [he]
  simp only [Sem.run_bind, hs, Result.andThen_ok, Sem.run_pure, Oper.upon_skip]
  obtain ⟨E', e1, e2, e3, e4, _⟩ := hr
  exact ⟨undef, E', rfl, e1, e2, e3, e4, .top _⟩

theorem call_wp {C : CallF} (hN : Named P) (hC : CallsOK P C) {M : FuncId → Bool} {al : Option Nat} {ts : List PV} {a : Act} {o : Oper} {c : Go.Call} {y : Operand} {g : FuncId} {caps : List PV} {x : PV} {h' : Heap} {Q : Exit → Act → World → Prop} (ho : o.op = .call c) (hc : c.callee = .value y)
    (hy : ev ts y = .fn g caps) (h : callOp P C M al E.h g (evs ts c.args ++ caps) = some (x, h')) (hI : Inv P E) (hT : RepT P E ts a) : o.wp P a E.w (OpPost P E h' x o.dst a) Q := by
  have hL := hT.evs c.args
  have hf := hT.ev y
  rw [hy] at hf
  generalize hv : a.eval y = vf at hf
  cases hf with
  | fn _ _ vs hl hr =>
    have hx : RepL P E (evs ts c.args ++ caps) ((c.args.map a.eval) ++ vs).toList := by
      refine ⟨by simp [hL.1, hl], fun i hi => ?_⟩
      simp only [Array.toList_append]
      by_cases hlt : i < (evs ts c.args).length
      · have h2 : i < (c.args.map a.eval).toList.length := by rw [← hL.1]; exact hlt
        have := hL.2 i hlt
        simp only [List.getD] at this ⊢
        rw [List.getElem?_append_left hlt, List.getElem?_append_left h2]
        exact this
      · have hge : (evs ts c.args).length ≤ i := by omega
        have h2 : (c.args.map a.eval).toList.length ≤ i := by rw [← hL.1]; exact hge
        have := hr (i - (evs ts c.args).length) (by simp at hi; omega)
        simp only [List.getD] at this ⊢
        rw [List.getElem?_append_right hge, List.getElem?_append_right h2, ← hL.1]
        simpa using this
    obtain ⟨⟨fn, hfn, hb⟩, hcall⟩ := callOp_run hC hI h hx
    have hnm := hN g fn hfn hb
    unfold Oper.wp
    have he : (execOp a.eval o).run P E.w = .ok (.enter g (c.args.map a.eval ++ vs)) E.w := by
      have hb' : fn.body ≠ none := by intro hh; rw [hh] at hb; cases hb
      simp [execOp, ho, resolve, hc, hv, Deferred.ofValue, invoke, callFunc, hfn, hnm, hb']
    rw [he, Oper.upon_enter]
    simp only [Array.toArray_toList] at hcall
    refine hcall.mono ?_
    rintro e w' ⟨v, E', rfl, e1, e2, e3, e4, e5⟩
    exact ⟨v, E', rfl, e1, e2, e3, e4, e5⟩

theorem run_newVar' (t : TypeId) (v : Value) (w : World) : (newVar t v).run P w = .ok ⟨w.heap.size, 0, none⟩ (w.alloc (.cells v.cells t)) := by
  simp [newVar, newRow]

theorem doOp_wp {C : CallF} (hN : Named P) (hC : CallsOK P C) {M : FuncId → Bool} {al : Option Nat} {ts : List PV} {a : Act} {o : Oper} {x : PV} {h' : Heap} {Q : Exit → Act → World → Prop}
    (h : doOp P C M al ts E.h o.op = some (x, h')) (hI : Inv P E) (hT : RepT P E ts a) (hal : AlOK E.h al) : o.wp P a E.w (OpPost P E h' x o.dst a) Q := by
  unfold doOp at h
  split at h
  · rename_i y ho
    cases h
    unfold Oper.wp
    simp only [execOp, ho, Sem.run_pure, Oper.upon_value]
    exact ⟨_, E, rfl, rfl, rfl, Trans.refl E, hI, hT.ev y⟩
  · rename_i y ho
    cases h
    unfold Oper.wp
    simp only [execOp, ho, Sem.run_pure, Oper.upon_value]
    exact ⟨_, E, rfl, rfl, rfl, Trans.refl E, hI, hT.ev y⟩
  · rename_i c p q ho
    have hc := hT.ev c
    split at h
    · rename_i hb
      rw [hb] at hc
      cases h
      unfold Oper.wp
      simp only [execOp, ho, hc.bool_inv, asBool, Sem.run_bind, Sem.run_pure, Result.andThen_ok, Oper.upon_value]
      exact ⟨_, E, rfl, rfl, rfl, Trans.refl E, hI, by simpa using hT.ev p⟩
    · rename_i hb
      rw [hb] at hc
      cases h
      unfold Oper.wp
      simp only [execOp, ho, hc.bool_inv, asBool, Sem.run_bind, Sem.run_pure, Result.andThen_ok, Oper.upon_value]
      exact ⟨_, E, rfl, rfl, rfl, Trans.refl E, hI, by simpa using hT.ev q⟩
    · simp at h
  · rename_i t ho
    cases hz : zeroPV P t with
    | none => simp [hz] at h
    | some z =>
      simp only [hz, Option.map_some, Option.some.injEq, Prod.mk.injEq] at h
      obtain ⟨rfl, rfl⟩ := h
      unfold zeroPV at hz
      cases hi : P.info? t with
      | none => simp [hi] at hz
      | some i =>
        cases hiz : i.zero with
        | none => simp [hi, hiz] at hz
        | some zv =>
          simp [hi, hiz] at hz
          subst hz
          refine value_wp (s := Instr.alloc t true (.tuple #[])) (by simp [execOp, ho]) ?_ (add_box hI hal t t (ofConst_cells zv))
          simp [Instr.alloc, run_zeroValue E.w hi hiz, run_newVar']
  · rename_i t y ho
    split at h
    · rename_i hok
      simp only [Option.some.injEq, Prod.mk.injEq] at h
      obtain ⟨rfl, rfl⟩ := h
      refine value_wp (s := Instr.box t (a.eval y)) (by simp [execOp, ho]) ?_ (add_box hI hal t t (okv_cells (hT.ev y) hok))
      simp [Instr.box, run_newVar']
    · simp at h
  · rename_i t ps ho
    obtain ⟨h1, rfl⟩ := keep_some h
    obtain ⟨hl, hq⟩ := hT.evp ps
    obtain ⟨v, e1, e2⟩ := buildOp_run h1 hl hq E.w
    exact value_wp (by simp [execOp, ho]) e1 (Res.same hI e2)
  · rename_i t n ps ho
    obtain ⟨hl, hq⟩ := hT.evp ps
    obtain ⟨v, w', e1, e2⟩ := buildSlice_run hI h hal hl hq
    exact value_wp (by simp [execOp, ho]) e1 e2
  · rename_i t p ho
    obtain ⟨h1, rfl⟩ := keep_some h
    obtain ⟨v, e1, e2⟩ := loadOp_run hI h1 (hT.ev p)
    exact value_wp (by simp [execOp, ho]) e1 (Res.same hI e2)
  · rename_i t p y ho
    cases hs : storeOp P t E.h (ev ts p) (ev ts y) with
    | none => simp [hs] at h
    | some h2 =>
      simp [hs] at h
      obtain ⟨rfl, rfl⟩ := h
      obtain ⟨w', e1, e2⟩ := storeOp_run hI hs (hT.ev p) (hT.ev y)
      exact skip_wp (by simp [execOp, ho]) e1 e2
  · rename_i y ho
    have hy := hT.ev y
    split at h
    · rename_i f cs hb
      cases h
      rw [hb] at hy
      have hy2 := hy
      generalize hv : a.eval y = v at hy hy2
      cases hy with
      | fn _ _ vs hl hr =>
        unfold Oper.wp
        simp only [execOp, ho, hv, Sem.run_pure, Oper.upon_value]
        exact ⟨_, E, rfl, rfl, rfl, Trans.refl E, hI, hy2⟩
    · split at h
      · rename_i hok
        cases h
        obtain ⟨blk, k, hv⟩ := alive_ptr hok hy
        unfold Oper.wp
        rw [hv] at hy
        simp only [execOp, ho, hv, Sem.run_pure, Oper.upon_value]
        exact ⟨_, E, rfl, rfl, rfl, Trans.refl E, hI, hy⟩
      · simp at h
  · rename_i op t p q pos ho
    obtain ⟨h1, rfl⟩ := keep_some h
    obtain ⟨v, e1, e2⟩ := binOp_run h1 (hT.ev p) (hT.ev q) E.w p q
    exact value_wp (by simp [execOp, ho]) e1 (Res.same hI e2)
  · rename_i op t p ho
    obtain ⟨h1, rfl⟩ := keep_some h
    obtain ⟨v, e1, e2⟩ := unOp_run h1 (hT.ev p) E.w
    exact value_wp (by simp [execOp, ho]) e1 (Res.same hI e2)
  · rename_i s d p ho
    obtain ⟨h1, rfl⟩ := keep_some h
    obtain ⟨v, e1, e2⟩ := convertOp_run hI h1 (hT.ev p)
    exact value_wp (by simp [execOp, ho]) e1 (Res.same hI e2)
  · rename_i f first caps ho
    split at h
    · rename_i hz
      cases h
      have hfe : first = #[] := Array.eq_empty_of_size_eq_zero hz
      subst hfe
      have hL := hT.evs caps
      unfold Oper.wp
      simp only [execOp, ho, Instr.makeFunc, Sem.run_bind, Sem.run_pure, Result.andThen_ok, Oper.upon_value]
      refine ⟨_, E, rfl, rfl, rfl, Trans.refl E, hI, ?_⟩
      simp only [Array.map_empty]
      exact .fn f _ _ (by simpa using hL.1) fun i hi => by simpa using hL.2 i hi
    · simp at h
  · rename_i t l c ho
    obtain ⟨v, w', e1, e2⟩ := makeSlice_run hI h hal (hT.ev l) (hT.ev c)
    exact value_wp (by simp [execOp, ho]) e1 e2
  · rename_i t y lo hi mx ho
    obtain ⟨h1, rfl⟩ := keep_some h
    obtain ⟨v, e1, e2⟩ := sliceOp_run hI h1 (hT.ev y) (hT.evo lo).1 (hT.evo lo).2 (hT.evo hi).1 (hT.evo hi).2 (hT.evo mx).1 (hT.evo mx).2 E.w
    exact value_wp (by simp [execOp, ho]) e1 (Res.same hI e2)
  · rename_i t y f ho
    obtain ⟨h1, rfl⟩ := keep_some h
    obtain ⟨v, e1, e2⟩ := fieldAddrOp_run h1 (hT.ev y) E.w
    exact value_wp (by simp [execOp, ho]) e1 (Res.same hI e2)
  · rename_i t y f ho
    obtain ⟨h1, rfl⟩ := keep_some h
    obtain ⟨v, e1, e2⟩ := fieldOp_run h1 (hT.ev y) E.w
    exact value_wp (by simp [execOp, ho]) e1 (Res.same hI e2)
  · rename_i t y i ho
    obtain ⟨h1, rfl⟩ := keep_some h
    obtain ⟨v, e1, e2⟩ := indexAddrOp_run hI h1 (hT.ev y) (hT.ev i) E.w
    exact value_wp (by simp [execOp, ho]) e1 (Res.same hI e2)
  · rename_i t y i ho
    obtain ⟨h1, rfl⟩ := keep_some h
    obtain ⟨v, e1, e2⟩ := indexOp_run h1 (hT.ev y) (hT.ev i) E.w
    exact value_wp (by simp [execOp, ho]) e1 (Res.same hI e2)
  · rename_i y j ho
    have hy := hT.ev y
    split at h
    · rename_i vs hb
      obtain ⟨h1, rfl⟩ := keep_some h
      rw [hb] at hy
      generalize hv : a.eval y = v at hy
      cases hy with
      | tuple _ us hl hr =>
        have hj : j < vs.length := by
          rcases Nat.lt_or_ge j vs.length with h2 | h2
          · exact h2
          · rw [List.getElem?_eq_none h2] at h1; cases h1
        have hju : j < us.size := by omega
        have hrep := hr j hj
        refine value_wp (s := Instr.extract (a.eval y) j) (v := us.getD j undef) (by simp [execOp, ho]) ?_ (Res.same hI (by simpa [List.getD, h1] using hrep))
        simp [Instr.extract, hv, hju, Array.getD]
    · simp at h
  · rename_i c ho
    split at h
    · rename_i b hc
      exact builtin_wp ho hc h hI hT hal
    · rename_i f hc
      split at h
      · rename_i g caps hf
        exact call_wp hN hC ho hc hf h hI hT
      · simp at h
    · simp at h
  · simp at h

end
end Go.Pu
