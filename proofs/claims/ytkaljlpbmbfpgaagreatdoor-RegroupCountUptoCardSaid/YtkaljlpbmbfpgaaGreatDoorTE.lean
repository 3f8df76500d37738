/- Functions that call themselves; two rows of one function. -/
import Derived.Test.YtkaljlpbmbfpgaaGreatDoorTB
set_option linter.unusedVariables false
namespace Go.Pu

/-- what a function comes to that calls itself, so many deep -/
def recM (s : (List U → Rt) → List U → Rt) : Nat → List U → Rt
 | 0 => fun _ => .fail
 | n + 1 => s (recM s n)


/-! a body, run with what is said of all functions, the function itself too -/

def callB (P : Program) (X : Ext) (M : FuncId → Bool) (L : FuncId → Nat → Option (List Nat)) (n : Nat) : CallF := fun f xs hc =>
  match P.funcs[f]? with
  | none => none
  | some fn =>
   match fn.body with
   | none => none
   | some body =>
    run P (call P X M L n) M n hc.length (L f) body (xs ++ List.replicate (fn.ntmps - xs.length) .top) hc fun e ts h =>
     match e with
     | .exit _ => none
     | _ => finish P fn hc.length ts h

def callKB {R : Type} (B : Bool → Option R → Option R → Option R) (P : Program) (X : Ext) (M : FuncId → Bool) (L : FuncId → Nat → Option (List Nat)) (LS : FuncId → Nat → Nat → Option (Smy R)) (n : Nat) : CallK R := fun f xs hc k =>
  match P.funcs[f]? with
  | none => none
  | some fn =>
   match fn.body with
   | none => none
   | some body =>
    runK B P (callK B P X M L LS n) M (LS f hc.length) n hc.length (L f) body (xs ++ List.replicate (fn.ntmps - xs.length) .top) hc fun e ts h =>
     match e with
     | .exit _ => none
     | _ => (finish P fn hc.length ts h).bind k

def callFB {R : Type} (B : Bool → Option R → Option R → Option R) (P : Program) (X : Ext) (M : FuncId → Bool) (L : FuncId → Nat → Option (List Nat)) (LS : FuncId → Nat → Nat → Option (Smy R)) (n : Nat) : CallK R := fun f xs hc k =>
  fL xs fun xs => fH hc fun hc =>
  match P.funcs[f]? with
  | none => none
  | some fn =>
   match fn.body with
   | none => none
   | some body =>
    runF B P (callF B P X M L LS n) M (LS f hc.length) n hc.length (L f) body (xs ++ List.replicate (fn.ntmps - xs.length) .top) hc fun e ts h =>
     match e with
     | .exit _ => none
     | _ => fL ts fun ts => fH h fun h => (finish P fn hc.length ts h).bind fun r => fV r.1 fun v => fH r.2 fun h' => k (v, h')

theorem callFB_eq {R : Type} (B : Bool → Option R → Option R → Option R) (P : Program) (X : Ext) (M : FuncId → Bool) (L : FuncId → Nat → Option (List Nat)) (LS : FuncId → Nat → Nat → Option (Smy R)) (n : Nat) : callFB B P X M L LS n = callKB B P X M L LS n := by
  funext f xs hc k
  simp only [callFB, callKB, fL_eq, fH_eq, fV_eq, runF_eq, callF_eq]
  all_goals rfl

section
variable {P : Program} {X : Ext} {M : FuncId → Bool} {L : FuncId → Nat → Option (List Nat)}
theorem callB_ok (hm : P.follows .mixedOrders = true) (hN : Named P) (hX : XOK P X) (n : Nat) {f : FuncId} {xs : List PV} {hc : Heap} {r : PV} {hc' : Heap} (h : callB P X M L n f xs hc = some (r, hc')) : RowAt P f xs hc (r, hc') := by
 have ih := call_ok hm hN hX M L n
 unfold callB at h
 split at h
 ·cases h
 rename_i fn hfn
 split at h
 ·cases h
 rename_i body hb
 refine ⟨⟨fn, hfn, by rw [hb]; rfl⟩, fun E vs hE hok hI hL => ?_⟩
 subst hE
 refine calls_of_wp hfn hb ?_
 have hS : Sim P E.h.length E (xs ++ List.replicate (fn.ntmps - xs.length) .top, E.h) { tmps := vs.toArray ++ Array.replicate (fn.ntmps - vs.toArray.size) undef, defers := [] } E.w := by
  refine ⟨E, rfl, rfl, (Trans.refl E).toK (Nat.le_refl _), hI, ⟨by simp [hL.1], fun i hi => ?_⟩, rfl⟩
  by_cases hlt : i < xs.length
  ·have h2 : i < vs.length := by rw [← hL.1]; exact hlt
   have := hL.2 i hlt
   simp only [List.getD, List.getElem?_append_left hlt] at this ⊢
   have e : (vs.toArray ++ Array.replicate (fn.ntmps - vs.toArray.size) undef).getD i undef = (vs[i]?).getD undef := by
    simp [Array.getD, h2, Array.getElem_append]
    intro hh; omega
   rw [e]
   exact this
  ·have e : (xs ++ List.replicate (fn.ntmps - xs.length) PV.top).getD i .top = .top := by
    rw [List.getD, List.getElem?_append_right (by omega), List.getElem?_replicate]
    split <;> rfl
   rw [e]; exact .top _
 refine wp_mono (run_wp hm hN ih body _ _ _ _ _ h hS) ?_
 rintro e a' w' ⟨z, σ, hz, hS', hk⟩
 have fin : finish P fn E.h.length σ.1 σ.2 = some (r, hc') → a'.defers = [] ∧ ∃ v, (results fn a'.tmps).run P w' = .ok v w' ∧
   ∃ u E', Ending.returned v = .returned u ∧ E'.w = w' ∧ E'.h = hc' ∧ TransK E.h.length E E' ∧ Inv P E' ∧ Rep P E' r u := by
  intro hk
  obtain ⟨Ef, rfl, hh, hK, hIf, hTf, hD⟩ := hS'
  rw [← hh] at hk
  unfold finish at hk
  cases hvs : mapO (resVal P σ.1 Ef.h) fn.results.toList with
  | none => rw [hvs] at hk; cases hk
  | some rs =>
   rw [hvs] at hk
   simp only [Option.bind_some] at hk
   obtain ⟨v, e1, e2⟩ := results_run hIf hTf hvs
   generalize hraw : oneOf rs = raw at *
   cases hr : reach Ef.h (List.range E.h.length ++ refsR raw) with
   | none => rw [hr] at hk; cases hk
   | some ids =>
    rw [hr] at hk
    simp only [Option.bind_some] at hk
    split at hk
    ·rename_i hc
     simp only [Bool.and_eq_true, decide_eq_true_eq] at hc
     simp only [Option.some.injEq, Prod.mk.injEq] at hk
     obtain ⟨rfl, rfl⟩ := hk
     have hR := reach_spec hr
     exact ⟨hD, v, e1, v, Ef.sub ids, rfl, rfl, rfl, hK.trans (sub_transK hR hc.2), sub_inv hIf hR, e2.renR (sub_rn hR) hc.1 fun b hb => hR.rt b (List.mem_append_right _ hb)⟩
    ·cases hk
 cases z with
 | normal => cases hz; exact fin hk
 | exit i => cases hk
 | ret => cases hz; exact fin hk

theorem callKB_ev {R : Type} {LS : FuncId → Nat → Nat → Option (Smy R)} (hLS : LoopsOK P X M L LS) (n : Nat) {f : FuncId} {xs : List PV} {hc : Heap} {k : Res2 → Option R} {r : R} (h : callKB br P X M L LS n f xs hc k = some r) :
  ∃ N y, callB P X M L N f xs hc = some y ∧ k y = some r := by
 unfold callKB at h
 split at h
 ·cases h
 rename_i fn hfn
 split at h
 ·cases h
 rename_i body hb
 obtain ⟨N, ⟨e, ts', h'⟩, e1, e2⟩ := runK_ev (callK_ev hLS n) body _ _ _ _ (hLS f fn body _ hfn hb) h
 have fin : (finish P fn hc.length ts' h').bind k = some r → e ≠ .normal ∧ (∀ i, e ≠ .exit i) ∨ e = .normal → ∃ N y, callB P X M L N f xs hc = some y ∧ k y = some r := by
  intro hk he
  obtain ⟨y, f1, f2⟩ := bindK hk
  refine ⟨N, y, ?_, f2⟩
  simp only [callB, hfn, hb]
  unfold RunsTo at e1
  rw [run_bind, e1]
  simp only [Option.bind_some]
  cases e with
  | normal => exact f1
  | exit i => rcases he with ⟨_, he⟩ | he
              ·exact absurd rfl (he i)
              ·cases he
  | ret => exact f1
 cases e with
 | normal => exact fin e2 (.inr rfl)
 | exit i => cases e2
 | ret => exact fin e2 (.inl ⟨by simp, by simp⟩)

theorem rowB_of (hm : P.follows .mixedOrders = true) (hN : Named P) (hX : XOK P X) {LS : FuncId → Nat → Nat → Option (Smy Res2)} (hLS : LoopsOK P X M L LS) {f : FuncId} {fuel : Nat} {xs : List PV} {hc : Heap} {plan : List Nat} {r : Res2}
  (he : callKB br P X M L LS fuel f xs hc (fun y => fixR P plan hc.length y) = some r) : RowAt P f xs hc r := by
 obtain ⟨N, y, e1, e2⟩ := callKB_ev hLS fuel he
 obtain ⟨y1, y2⟩ := y
 obtain ⟨f1, f2⟩ := callB_ok hm hN hX N e1
 refine ⟨f1, fun E vs hE hok hI hL => (f2 E vs hE hok hI hL).mono ?_⟩
 rintro e w' ⟨v, E', rfl, rfl, rfl, hT, hI', hr⟩
 obtain ⟨E2, g1, g2, g3, g4, g5⟩ := fixR_env hT hI' hr e2
 exact ⟨v, E2, rfl, g1, g2, g3, g4, g5⟩
end

section
variable {P : Program}
theorem eokNone {f : FuncId} (S : FSp) : EOK P f (gF S fun _ => .fail) := by
 refine eok_rows fun xs hc r hg => ?_
 exfalso
 unfold gF gW at hg
 split at hg
 ·cases hg
 ·split at hg
  ·cases hg
  ·rw [fU_eq] at hg
   obtain ⟨_, _, _, _, h, _⟩ := outsTr_some hg
   cases h

theorem eokRec {f : FuncId} {S : FSp} {s : (List U → Rt) → List U → Rt} (h : ∀ mr, EOK P f (gF S mr) → EOK P f (gF S (s mr))) : ∀ n, EOK P f (gF S (recM s n))
 | 0 => eokNone S
 | n + 1 => h _ (eokRec h n)

/-- the equation of a function that calls itself -/
theorem eokToldB {X : Ext} {M : FuncId → Bool} {L : FuncId → Nat → Option (List Nat)} (hm : P.follows .mixedOrders = true) (hN : Named P) (hX : XOK P X) {LS : FuncId → Nat → Nat → Option (Smy Res2)} (hLS : LoopsOK P X M L LS) {f : FuncId} (fuel : Nat) (S : FSp) (m : List U → Rt)
  (heq : ∀ us v, (m us).val = some v → callKB br P X M L LS fuel f (encs us 0 S.ap) (encH us (ws S.ap) S.ah) (fun y => fixR P S.plan S.ah.length y) = (m us).go br (fun _ => none) S.fin) :
  EOK P f (gF S m) := by
 refine eok_rows fun xs hc r hg => RowAt.nrm S.ap ?_
 have hgW : ∃ us j o us', encs us 0 S.ap = nrms S.ap xs ∧ encH us (ws S.ap) S.ah = hc ∧ (m us).val = some (.stop j us') ∧ S.outs[j]? = some o ∧ r = (oneOf (encs us' 0 o.1), encH us' (ws o.1) o.2) := by
  have key : ∀ {k : List U → Tr}, (gW S k xs hc).val = some r → (∀ us, (k us).val = some r → ∃ j o us', (m us).val = some (.stop j us') ∧ S.outs[j]? = some o ∧ r = (oneOf (encs us' 0 o.1), encH us' (ws o.1) o.2)) →
    ∃ us j o us', encs us 0 S.ap = nrms S.ap xs ∧ encH us (ws S.ap) S.ah = hc ∧ (m us).val = some (.stop j us') ∧ S.outs[j]? = some o ∧ r = (oneOf (encs us' 0 o.1), encH us' (ws o.1) o.2) := by
   intro k hk hh
   unfold gW at hk
   split at hk
   ·cases hk
   ·rename_i ua hua
    split at hk
    ·cases hk
    ·rename_i ub hub
     rw [fU_eq] at hk
     obtain ⟨j, o, us', h1, h2, h3⟩ := hh _ hk
     obtain ⟨e1, e2⟩ := decs_enc hua [] ub
     have e3 := decH_enc hub ua []
     simp only [List.nil_append, List.append_nil, List.length_nil] at e1 e3
     rw [e2] at e3
     exact ⟨ua ++ ub, j, o, us', e1, e3, h1, h2, h3⟩
  refine key (k := fun us => outsTr (m us).res 0 S.outs) hg fun us h => ?_
  obtain ⟨i, o, us', h1, h2, h3⟩ := outsTr_some h
  rw [Nat.zero_add] at h2
  exact ⟨i, o, us', res_some h2, h1, h3⟩
 obtain ⟨us, j, o, us', hx, rfl, h1, h2, h3⟩ := hgW
 rw [← hx]
 have he := heq us _ h1
 rw [Rt.go_val, h1] at he
 have hfin : S.fin j us' = some r := by unfold FSp.fin; rw [h2, h3]; rfl
 dsimp only at he
 rw [hfin] at he
 have := encH_length us S.ah (ws S.ap)
 rw [← this] at he
 exact rowB_of hm hN hX hLS he

/-- a row, and where it has no answer another -/
def gE (S : FSp) (m : List U → Rt) (g : List PV → List Blk → Tr) : List PV → List Blk → Tr := fun xs hc => match decs S.ap (nrms S.ap xs) with
 | none => g xs hc
 | some a => match decH S.ah hc with
  | none => g xs hc
  | some b => fU (a ++ b) fun us => outsTr (m us).res 0 S.outs

theorem eokE {f : FuncId} {S : FSp} {m : List U → Rt} {g : List PV → List Blk → Tr} (h1 : EOK P f (gF S m)) (h2 : EOK P f g) : EOK P f (gE S m g) := eok2 h1 h2
end
end Go.Pu
