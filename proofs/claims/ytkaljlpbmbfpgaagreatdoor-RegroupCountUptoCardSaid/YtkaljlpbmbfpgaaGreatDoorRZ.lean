/- The pure machine, twenty-sixth part: operations in no order, told by one order. -/
import Derived.Test.YtkaljlpbmbfpgaaGreatDoorRY
set_option linter.unusedSimpArgs false
set_option linter.unusedVariables false
namespace Go.Pu

theorem addNew_mem : ∀ {l acc : List Nat} {b : Nat}, b ∈ addNew acc l → b ∈ acc ∨ b ∈ l
 | [], acc, b, h => .inl h
 | c :: l, acc, b, h => by
  unfold addNew at h
  rcases addNew_mem h with h | h
  ·split at h
   ·exact .inl h
   ·rcases List.mem_append.1 h with h | h
    ·exact .inl h
    ·exact .inr (by simp at h; simp [h])
  ·exact .inr (by simp [h])

theorem getD_lt {α : Type} {l : List (List α)} {k : Nat} {x : α} (h : x ∈ l.getD k []) : k < l.length := by
 rcases Nat.lt_or_ge k l.length with hh | hh
 ·exact hh
 ·rw [List.getD, List.getElem?_eq_none hh] at h; simp at h

theorem ancs_get : ∀ (l : List Oper) (acc : List (List Nat)) (k : Nat), k < acc.length → (ancs l acc).getD k [] = acc.getD k []
 | [], _, _, _ => rfl
 | o :: l, acc, k, hk => by
  unfold ancs
  rw [ancs_get l _ k (by simp; omega)]
  simp only [List.getD, List.getElem?_append_left hk]

theorem ancs_spec : ∀ (l : List Oper) (acc : List (List Nat)) (t : Nat) (o : Oper) (i : Nat), l[t]? = some o → i ∈ (ancs l acc).getD (acc.length + t) [] →
  ∃ e ∈ o.after, Region.binds .any e = true ∧ (i = e.on ∨ i ∈ (ancs l acc).getD e.on [])
 | [], _, _, _, _, h, _ => by simp at h
 | o' :: l, acc, 0, o, i, h, hi => by
  simp only [List.getElem?_cons_zero, Option.some.injEq] at h
  subst h
  unfold ancs at hi ⊢
  rw [Nat.add_zero, ancs_get l _ acc.length (by simp)] at hi
  simp only [List.getD, List.getElem?_append_right (Nat.le_refl _), Nat.sub_self, List.getElem?_cons_zero, Option.getD_some] at hi
  rcases addNew_mem hi with hi | hi
  ·cases hi
  ·obtain ⟨e, he, hi⟩ := List.mem_flatMap.1 hi
   split at hi
   ·rename_i hb
    refine ⟨e, Array.mem_toList_iff.1 he, hb, ?_⟩
    rcases List.mem_cons.1 hi with hi | hi
    ·exact .inl hi
    ·refine .inr ?_
     have hlt : e.on < acc.length := getD_lt (l := acc) (by simpa [List.getD] using hi)
     rw [ancs_get l _ e.on (by simp; omega)]
     simp only [List.getD, List.getElem?_append_left hlt]
     exact hi
   ·cases hi
 | o' :: l, acc, t + 1, o, i, h, hi => by
  simp only [List.getElem?_cons_succ] at h
  unfold ancs at hi ⊢
  exact ancs_spec l _ t o i h (by
   rw [show acc.length + (t + 1) = (acc ++ [addNew [] (o'.after.toList.flatMap fun e => if Region.binds .any e then e.on :: acc.getD e.on [] else [])]).length + t by simp; omega] at hi
   exact hi)

section
variable {P : Program} {C : CallF} {M : FuncId → Bool} {ops : Array Oper}

def ancOf (ops : Array Oper) (k : Nat) : List Nat := (ancs ops.toList []).getD k []

theorem static_spec (h : staticOK ops = true) {k : Nat} {o : Oper} (hk : ops[k]? = some o) :
  (∀ e ∈ o.after, Region.binds .any e = true → e.on < k) ∧ ∀ i, i < k → i ∈ ancOf ops k ∨ ∃ oi, ops[i]? = some oi ∧ oi.apart ops o = true := by
 have hlt : k < ops.size := by
  rcases Nat.lt_or_ge k ops.size with hh | hh
  ·exact hh
  ·rw [Array.getElem?_eq_none hh] at hk; cases hk
 unfold staticOK at h
 have := List.all_eq_true.1 h k (List.mem_range.2 hlt)
 rw [hk] at this
 simp only [Bool.and_eq_true] at this
 obtain ⟨h1, h2⟩ := this
 refine ⟨fun e he hb => ?_, fun i hi => ?_⟩
 ·have := Array.all_eq_true'.1 h1 e he
  simpa [hb] using this
 ·have := List.all_eq_true.1 h2 i (List.mem_range.2 hi)
  rw [Bool.or_eq_true] at this
  rcases this with h3 | h3
  ·exact .inl (by simpa [ancOf] using h3)
  ·refine .inr ?_
   split at h3
   ·rename_i oi hoi; exact ⟨oi, hoi, h3⟩
   ·cases h3

theorem dyn_spec {F : List Foot} (h : dynOK ops F = true) {k i : Nat} (hk : k < ops.size) (hi : i < k) : i ∈ ancOf ops k ∨ indep (F.getD i ([], [])) (F.getD k ([], [])) = true := by
 unfold dynOK at h
 have := List.all_eq_true.1 (List.all_eq_true.1 h k (List.mem_range.2 hk)) i (List.mem_range.2 hi)
 rw [Bool.or_eq_true] at this
 rcases this with h3 | h3
 ·exact .inl (by simpa [ancOf] using h3)
 ·exact .inr h3

theorem anc_listed (hs : staticOK ops = true) {listed : Array Bool} (hcl : ∀ i o, ops[i]? = some o → listed.getD i false = true → ∀ e ∈ o.after, Region.binds .any e = true → listed.getD e.on false = true) :
  ∀ (n k : Nat) (o : Oper), k < n → ops[k]? = some o → (∀ e ∈ o.after, Region.binds .any e = true → listed.getD e.on false = true) → ∀ i ∈ ancOf ops k, listed.getD i false = true := by
 intro n
 induction n with
 | zero => intro k o hk; omega
 | succ n ih =>
  intro k o hk ho he i hi
  obtain ⟨e, h1, h2, h3⟩ := ancs_spec ops.toList [] k o i (by simpa using ho) (by simpa [ancOf] using hi)
  have hl := he e h1 h2
  rcases h3 with rfl | h3
  ·exact hl
  ·have hlt := (static_spec hs ho).1 e h1 h2
   have hsz : k < ops.size := by
    rcases Nat.lt_or_ge k ops.size with hh | hh
    ·exact hh
    ·rw [Array.getElem?_eq_none hh] at ho; cases ho
   have ho' : ops[e.on]? = some ops[e.on] := by simp
   exact ih e.on _ (by omega) ho' (hcl e.on _ ho' hl) i h3

/-- what the places and the blocks are told to be, they are -/
def Sim (P : Program) (kk : Nat) (E0 : Env) (σ : St) (a : Act) (w : World) : Prop :=
 ∃ E, E.w = w ∧ E.h = σ.2 ∧ TransK kk E0 E ∧ Inv P E ∧ RepT P E σ.1 a ∧ a.defers = []

theorem doOpF_doOp {al : Option Nat} {ts : List PV} {h : Heap} {op : Op} {r : PV × Heap} {F : Foot} (hk : doOpF P C M al ts h op = some (r, F)) : doOp P C M al ts h op = some r := by
 have base : (doOp P C M al ts h op).map (fun r => (r, footOp al ts op)) = some (r, F) → doOp P C M al ts h op = some r := by
  intro hk
  cases hd : doOp P C M al ts h op with
  | none => rw [hd] at hk; cases hk
  | some q => rw [hd] at hk; cases hk; rfl
 unfold doOpF at hk
 split at hk
 ·rename_i c
  split at hk
  ·rename_i f hc
   simp only [doOp, hc]
   split at hk
   ·rename_i g caps hg
    split at hk
    ·rename_i e he
     cases hr : externOp e (evs ts c.args ++ caps) with
     | none => rw [hr] at hk; cases hk
     | some v =>
      rw [hr] at hk
      simp only [keep, Option.map_some, Option.some.injEq, Prod.mk.injEq] at hk
      obtain ⟨rfl, rfl⟩ := hk
      rfl
    ·rename_i he
     simp only [callOp, hk]
     rfl
   ·cases hk
  ·rename_i y name hc
   simp only [doOp, hc]
   split at hk
   ·rename_i g r hg
    simp only [hg, callOp, hk]
    rfl
   ·cases hk
  ·exact base hk
 ·exact base hk

theorem put_defers' (a : Act) (d : Option Tmp) (v : Value) : (a.put d v).defers = a.defers := by cases d <;> rfl

theorem rep_undef {P : Program} {E : Env} : Rep P E (.tuple []) undef := .tuple [] #[] rfl fun i hi => by simp at hi

theorem undef_unwanted {P : Program} {E : Env} {ops : Array Oper} {o : Oper} {ts : List PV} {a : Act} {d j : Nat} {want : Bool} (hT : RepT P E ts a) (hd : (ops[j]?).bind (·.dst) = some d) (hb : ts.getD d .top = .tuple []) (hg : o.guard = some (j, want)) :
  Region.wanted o (yielded ops a.tmps) = false := by
 have hlt : d < ts.length := by
  rcases Nat.lt_or_ge d ts.length with hh | hh
  ·exact hh
  ·rw [List.getD, List.getElem?_eq_none hh] at hb; cases hb
 have hv := hT.rep d hlt
 rw [hb] at hv
 have hv : a.tmps.getD d undef = undef := by
  generalize a.tmps.getD d undef = v at hv
  cases hv with
  | tuple cs vs hl h =>
   have : vs = #[] := by
    apply Array.eq_empty_of_size_eq_zero
    simpa using hl.symm
   rw [this]; rfl
 have hlt2 : d < a.tmps.size := by rw [← hT.len]; exact hlt
 have h1 : a.tmps[d]? = some undef := by
  rw [Array.getElem?_eq_getElem hlt2]
  simpa [Array.getD, hlt2] using hv
 have hy : yielded ops a.tmps j = none := by
  simp [yielded, hd, h1, undef]
 simp only [Region.wanted, hg, hy]
 rfl

theorem step_wp (hN : Named P) (hC : CallsOK P C) {kk : Nat} {E0 : Env} {s : Nat} {o : Oper} {σ σ1 : St} {F : Foot} {a : Act} {w : World} {Q : Exit → Act → World → Prop} (hk : stepF P C M ops s o σ = some (σ1, F)) (hS : Sim P kk E0 σ a w) :
  (Region.wanted o (yielded ops a.tmps) = true → o.wp P a w (Sim P kk E0 σ1) Q) ∧ (Region.wanted o (yielded ops a.tmps) = false → Sim P kk E0 σ1 (a.put o.dst undef) w) := by
 obtain ⟨E, rfl, hh, hK, hI, hT, hD⟩ := hS
 obtain ⟨ts, h⟩ := σ
 dsimp only at hh hT
 subst hh
 have go : (doOpG P C M (slotAt o s) ts E.h o.op).map (fun r => ((put ts o.dst r.1.1, r.1.2), r.2)) = some (σ1, F) → o.wp P a E.w (Sim P kk E0 σ1) Q := by
  intro hk
  unfold doOpG at hk
  split at hk
  ·rename_i hfree
   cases hd : doOpF P C M (slotAt o s) ts E.h o.op with
   | none => rw [hd] at hk; cases hk
   | some r =>
    obtain ⟨⟨r1, r2⟩, r3⟩ := r
    rw [hd] at hk
    simp only [Option.map_some, Option.some.injEq, Prod.mk.injEq] at hk
    obtain ⟨rfl, rfl⟩ := hk
    have hal : AlOK E.h (slotAt o s) := by
     revert hfree
     unfold alFree AlOK
     generalize slotAt o s = z
     intro hfree
     cases z with
     | none => trivial
     | some s' =>
      dsimp only at hfree ⊢
      split at hfree
      ·assumption
      ·cases hfree
    refine Oper.wp_mono (fun a' w' hp => ?_) (doOp_wp hN hC (doOpF_doOp hd) hI hT hal)
    obtain ⟨v, E', rfl, rfl, rfl, hTr, hI', hr⟩ := hp
    exact ⟨E', rfl, rfl, hK.trans (hTr.toK hK.le), hI', (hT.mono hI hTr).put o.dst hr, by rw [put_defers']; exact hD⟩
  ·cases hk
 unfold stepF at hk
 split at hk
 ·rename_i hg
  refine ⟨fun _ => go hk, fun hw => ?_⟩
  simp [Region.wanted, hg] at hw
 ·rename_i j want hg
  split at hk
  ·cases hk
  ·rename_i d hd
   dsimp only at hk
   split at hk
   ·rename_i b hb
    have hlt : d < ts.length := by
     rcases Nat.lt_or_ge d ts.length with hh | hh
     ·exact hh
     ·rw [List.getD, List.getElem?_eq_none hh] at hb; cases hb
    have hv := hT.rep d hlt
    rw [hb] at hv
    have hv := hv.bool_inv
    have hy : yielded ops a.tmps j = some b := by
     have hlt2 : d < a.tmps.size := by rw [← hT.len]; exact hlt
     have : a.tmps[d]? = some (.bool b) := by
      rw [Array.getElem?_eq_getElem hlt2]
      simpa [Array.getD, hlt2] using hv
     simp [yielded, hd, this]
    have hw : Region.wanted o (yielded ops a.tmps) = decide (b = want) := by
     simp only [Region.wanted, hg, hy]
     cases b <;> cases want <;> rfl
    split at hk
    ·rename_i hbw
     refine ⟨fun _ => go hk, fun hw' => ?_⟩
     rw [hw] at hw'
     simp [hbw] at hw'
    ·rename_i hbw
     simp only [Option.some.injEq, Prod.mk.injEq] at hk
     obtain ⟨rfl, rfl⟩ := hk
     refine ⟨fun hw' => ?_, fun _ => ⟨E, rfl, rfl, hK, hI, hT.put o.dst rep_undef, by rw [put_defers']; exact hD⟩⟩
     rw [hw] at hw'
     simp [hbw] at hw'
   ·rename_i hb
    have hw := undef_unwanted hT hd hb hg
    simp only [Option.some.injEq, Prod.mk.injEq] at hk
    obtain ⟨rfl, rfl⟩ := hk
    refine ⟨fun hw' => ?_, fun _ => ⟨E, rfl, rfl, hK, hI, hT.put o.dst rep_undef, by rw [put_defers']; exact hD⟩⟩
    rw [hw] at hw'
    cases hw'
   ·cases hk

theorem any_wp (hN : Named P) (hC : CallsOK P C) (hs : staticOK ops = true) {F : List Foot} (hd : dynOK ops F = true) {kk : Nat} {E0 : Env} {slot : Nat → Nat} {σ' : St} {Q : Exit → Act → World → Prop} (hQ : ∀ a w, Sim P kk E0 σ' a w → Q .normal a w) :
  ∀ (n : Nat) (c : List Nat) (listed : Array Bool) (σ : St) (a : Act) (w : World), c.length = n → Sim P kk E0 σ a w → Run P C M ops slot (fun i => F.getD i ([], [])) c σ σ' → c.Pairwise (· < ·) → listed.size = ops.size →
   (∀ i, i ∈ c ↔ i < ops.size ∧ listed.getD i true = false) → (∀ i o, ops[i]? = some o → listed.getD i false = true → ∀ e ∈ o.after, Region.binds .any e = true → listed.getD e.on false = true) →
   wpAny P .any ops Q n listed a w := by
 have lt_of {i : Nat} {o : Oper} (h : ops[i]? = some o) : i < ops.size := (Array.getElem?_eq_some_iff.1 h).1
 intro n
 induction n with
 | zero =>
  intro c listed σ a w hn hS hR hp hsz hm hcl
  have hc : c = [] := List.eq_nil_of_length_eq_zero hn
  subst hc
  refine ⟨?_, hQ a w (by have : σ = σ' := hR; rw [← this]; exact hS)⟩
  cases hr : Region.ready .any ops listed with
  | nil => rfl
  | cons j l =>
   have hj : j ∈ Region.ready .any ops listed := by rw [hr]; simp
   obtain ⟨h1, o, h2, _⟩ := mem_ready.1 hj
   have := (hm j).2 ⟨lt_of h2, h1⟩
   cases this
 | succ n ih =>
  intro c listed σ a w hn hS hR hp hsz hm hcl
  have both : ∀ i, i < ops.size → (listed.getD i true = false ∨ listed.getD i false = true) := by
   intro i hi
   have : i < listed.size := by omega
   simp only [Array.getD, this, dif_pos]
   cases listed[i] <;> simp
  refine ⟨fun hr => ?_, fun j hj => ?_⟩
  ·-- the first that is left may come up
   exfalso
   match c, hn with
   | i0 :: c', _ =>
    obtain ⟨o, σ1, h1, h2, h3⟩ := hR
    have hi0 := (hm i0).1 (by simp)
    have : i0 ∈ Region.ready .any ops listed := mem_ready.2 ⟨hi0.2, o, h1, fun e he hb => by
     have hlt := (static_spec hs h1).1 e he hb
     rcases both e.on (by omega) with hf | hf
     ·have hin := (hm e.on).2 ⟨by omega, hf⟩
      rcases List.mem_cons.1 hin with hin | hin
      ·omega
      ·have := (List.pairwise_cons.1 hp).1 _ hin
       omega
     ·exact hf⟩
    rw [hr] at this
    cases this
  ·obtain ⟨hj1, oj, hj2, hj3⟩ := mem_ready.1 hj
   have hjc := (hm j).2 ⟨lt_of hj2, hj1⟩
   obtain ⟨l1, l2, rfl⟩ := List.append_of_mem hjc
   have hnd : (l1 ++ j :: l2).Nodup := hp.imp fun h => by omega
   have hl1 : ∀ i ∈ l1, i < j := fun i hi => (List.pairwise_append.1 hp).2.2 i hi j (by simp)
   have hanc : ∀ i ∈ l1, i ∉ ancOf ops j := fun i hi hh => by
    have h1 := anc_listed hs hcl (j + 1) j oj (by omega) hj2 hj3 i hh
    have h2 := (hm i).1 (by simp [hi])
    have : i < listed.size := by omega
    simp only [Array.getD, this, dif_pos] at h1 h2
    rw [h1] at h2
    exact absurd h2.2 (by simp)
   have hR2 := Run.move hj2 (l1 := l1) (fun i hi => by
    rcases (static_spec hs hj2).2 i (hl1 i hi) with h | ⟨oi, h1, h2⟩
    ·exact absurd h (hanc i hi)
    ·rcases dyn_spec hd (lt_of hj2) (hl1 i hi) with h | h
     ·exact absurd h (hanc i hi)
     ·exact ⟨oi, h1, h2, h⟩) hR
   obtain ⟨o, σ1, e1, e2, e3⟩ := hR2
   rw [hj2] at e1
   cases e1
   have hjn : j ∉ l1 ++ l2 := by
    have h1 := List.nodup_append.1 hnd
    have h2 := List.nodup_cons.1 h1.2.1
    intro hh
    rcases List.mem_append.1 hh with hh | hh
    ·exact h1.2.2 j hh j (by simp) rfl
    ·exact h2.1 hh
   have next : ∀ a w, Sim P kk E0 σ1 a w → wpAny P .any ops Q n (listed.setIfInBounds j true) a w := fun a w hS1 => by
    refine ih (l1 ++ l2) _ σ1 a w (by simp at hn ⊢; omega) hS1 e3 ?_ (by simpa using hsz) (fun i => ?_) (fun i o ho hi e he hb => ?_)
    ·have h1 := List.pairwise_append.1 hp
     exact List.pairwise_append.2 ⟨h1.1, (List.pairwise_cons.1 h1.2.1).2, fun x hx y hy => h1.2.2 x hx y (by simp [hy])⟩
    ·by_cases hij : i = j
     ·subst hij
      refine ⟨fun h => absurd h hjn, fun h => ?_⟩
      have : i < listed.size := by omega
      simp [Array.getD, this] at h
     ·have hg : (listed.setIfInBounds j true).getD i true = listed.getD i true := getD_set_ne true (fun h => hij h.symm)
      rw [hg, ← hm i]
      simp [hij]
    ·by_cases hej : e.on = j
     ·rw [hej]
      have : j < listed.size := by rw [hsz]; exact lt_of hj2
      simp [Array.getD, this]
     ·rw [getD_set_ne false (fun h => hej h.symm)]
      by_cases hij : i = j
      ·subst hij
       rw [hj2] at ho
       cases ho
       exact hj3 e he hb
      ·rw [getD_set_ne false (fun h => hij h.symm)] at hi
       exact hcl i o ho hi e he hb
   obtain ⟨s1, s2⟩ := step_wp (Q := Q) hN hC e2 hS
   unfold wpOp
   rw [hj2]
   dsimp only
   cases hw : Region.wanted oj (yielded ops a.tmps) with
   | true => 
    rw [if_pos rfl]
    exact .inl (Oper.wp_mono next (s1 hw))
   | false =>
    rw [if_neg (by simp)]
    exact next _ _ (s2 hw)

end
end Go.Pu
