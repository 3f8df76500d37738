/- The pure machine, twenty-fifth part: operations in no order. -/
import Derived.Test.YtkaljlpbmbfpgaaGreatDoorRX
set_option linter.unusedSimpArgs false
set_option linter.unusedVariables false
namespace Go.Pu

abbrev St := List PV × Heap

section
variable (P : Program) (C : CallF) (M : FuncId → Bool) (ops : Array Oper)

def stepF (s : Nat) (o : Oper) (σ : St) : Option (St × Foot) :=
 match o.guard with
 | none => (doOpG P C M (slotAt o s) σ.1 σ.2 o.op).map fun r => ((put σ.1 o.dst r.1.1, r.1.2), r.2)
 | some (j, want) =>
  match (ops[j]?).bind (·.dst) with
  | none => none
  | some d =>
   match σ.1.getD d .top with
   | .bool b => if b = want then (doOpG P C M (slotAt o s) σ.1 σ.2 o.op).map fun r => ((put σ.1 o.dst r.1.1, r.1.2), r.2) else some ((put σ.1 o.dst (.tuple []), σ.2), ([], []))
   | .tuple [] => some ((put σ.1 o.dst (.tuple []), σ.2), ([], []))
   | _ => none

def Run (slot : Nat → Nat) (F : Nat → Foot) : List Nat → St → St → Prop
 | [], σ, σ' => σ = σ'
 | i :: c, σ, σ' => ∃ o σ1, ops[i]? = some o ∧ stepF P C M ops (slot i) o σ = some (σ1, F i) ∧ Run slot F c σ1 σ'
end

section
variable {P : Program} {C : CallF} {M : FuncId → Bool} {ops : Array Oper}

theorem LocOut.refl {h h2 : Heap} : LocOut [] h h h2 h2 := ⟨rfl, rfl, fun b hb => (by cases hb), fun _ _ => ⟨rfl, rfl⟩⟩

theorem doOpG_loc {o : Oper} {s : Nat} {ts : List PV} {h : Heap} {x : PV} {h' : Heap} {F : Foot} (hk : doOpG P C M (slotAt o s) ts h o.op = some ((x, h'), F)) :
  (∀ b ∈ F.2, b ∈ F.1) ∧ ∀ ts2 h2, (∀ y ∈ o.op.operands, ev ts2 y = ev ts y) → Agree F.1 h h2 → ∃ h2', doOpG P C M (slotAt o s) ts2 h2 o.op = some ((x, h2'), F) ∧ LocOut F.2 h h' h2 h2' := by
 unfold doOpG at hk ⊢
 split at hk
 ·rename_i hfree
  cases hd : doOpF P C M (slotAt o s) ts h o.op with
  | none => rw [hd] at hk; cases hk
  | some r =>
   obtain ⟨⟨r1, r2⟩, r3⟩ := r
   rw [hd] at hk
   simp only [Option.map_some, Option.some.injEq, Prod.mk.injEq] at hk
   obtain ⟨⟨rfl, rfl⟩, rfl⟩ := hk
   obtain ⟨e1, e2⟩ := doOpF_loc hd
   refine ⟨fun b hb => List.mem_append_right _ (e1 b hb), fun ts2 h2 ht hA => ?_⟩
   obtain ⟨k, f1, f2⟩ := e2 h2 (hA.mono fun b hb => List.mem_append_right _ hb)
   have hfree2 : alFree h2 (slotAt o s) = true := by
    rw [← hfree]
    unfold alFree
    split
    ·rfl
    ·rename_i s' hs
     rw [hA.2 s' (List.mem_append_left _ (by rw [hs]; simp [slotIds]))]
   refine ⟨k, ?_, f2⟩
   rw [if_pos hfree2, doOpF_congr (ts := ts2) (ts' := ts) ht, f1]
   rfl
 ·cases hk

theorem ev_of_getD {ts ts2 : List PV} {o : Oper} (hl : ∀ t ∈ o.looksAt ops, ts2.getD t .top = ts.getD t .top) : ∀ y ∈ o.op.operands, ev ts2 y = ev ts y := by
 intro y hy
 cases y with
 | tmp t =>
  refine hl t ?_
  unfold Oper.looksAt
  exact List.mem_append_left _ (List.mem_filterMap.2 ⟨.tmp t, by simpa using hy, rfl⟩)
 | _ => rfl

theorem stepF_loc {o : Oper} {s : Nat} {ts ts1 : List PV} {h h1 : Heap} {F : Foot} (hk : stepF P C M ops s o (ts, h) = some ((ts1, h1), F)) :
  ∃ y, ts1 = put ts o.dst y ∧ (∀ b ∈ F.2, b ∈ F.1) ∧ ∀ ts2 h2, (∀ t ∈ o.looksAt ops, ts2.getD t .top = ts.getD t .top) → Agree F.1 h h2 →
   ∃ h2', stepF P C M ops s o (ts2, h2) = some ((put ts2 o.dst y, h2'), F) ∧ LocOut F.2 h h1 h2 h2' := by
 have go : (doOpG P C M (slotAt o s) ts h o.op).map (fun r => ((put ts o.dst r.1.1, r.1.2), r.2)) = some ((ts1, h1), F) →
   ∃ y, ts1 = put ts o.dst y ∧ (∀ b ∈ F.2, b ∈ F.1) ∧ ∀ ts2 h2, (∀ t ∈ o.looksAt ops, ts2.getD t .top = ts.getD t .top) → Agree F.1 h h2 →
   ∃ h2', (doOpG P C M (slotAt o s) ts2 h2 o.op).map (fun r => ((put ts2 o.dst r.1.1, r.1.2), r.2)) = some ((put ts2 o.dst y, h2'), F) ∧ LocOut F.2 h h1 h2 h2' := by
  intro hk
  cases hd : doOpG P C M (slotAt o s) ts h o.op with
  | none => rw [hd] at hk; cases hk
  | some r =>
   obtain ⟨⟨r1, r2⟩, r3⟩ := r
   rw [hd] at hk
   simp only [Option.map_some, Option.some.injEq, Prod.mk.injEq] at hk
   obtain ⟨⟨rfl, rfl⟩, rfl⟩ := hk
   obtain ⟨e1, e2⟩ := doOpG_loc hd
   refine ⟨r1, rfl, e1, fun ts2 h2 ht hA => ?_⟩
   obtain ⟨k, f1, f2⟩ := e2 ts2 h2 (ev_of_getD ht) hA
   exact ⟨k, by rw [f1]; rfl, f2⟩
 unfold stepF at hk ⊢
 split at hk
 ·exact go hk
 ·rename_i j want hg
  split at hk
  ·cases hk
  ·rename_i d hd
   have hdl : d ∈ o.looksAt ops := by
    unfold Oper.looksAt
    refine List.mem_append_right _ ?_
    rw [hg]
    simp [hd]
   dsimp only at hk ⊢
   split at hk
   ·rename_i b hb
    split at hk
    ·rename_i hw
     obtain ⟨y, e1, e2, e3⟩ := go hk
     refine ⟨y, e1, e2, fun ts2 h2 ht hA => ?_⟩
     rw [ht d hdl, hb]
     dsimp only
     rw [if_pos hw]
     exact e3 ts2 h2 ht hA
    ·rename_i hw
     simp only [Option.some.injEq, Prod.mk.injEq] at hk
     obtain ⟨⟨rfl, rfl⟩, rfl⟩ := hk
     refine ⟨.tuple [], rfl, fun b hb => (by cases hb), fun ts2 h2 ht hA => ?_⟩
     rw [ht d hdl, hb]
     dsimp only
     rw [if_neg hw]
     exact ⟨h2, rfl, LocOut.refl⟩
   ·rename_i hb
    simp only [Option.some.injEq, Prod.mk.injEq] at hk
    obtain ⟨⟨rfl, rfl⟩, rfl⟩ := hk
    refine ⟨.tuple [], rfl, fun b hb => (by cases hb), fun ts2 h2 ht hA => ?_⟩
    rw [ht d hdl, hb]
    exact ⟨h2, rfl, LocOut.refl⟩
   ·cases hk

theorem indep_spec {F G : Foot} (h : indep F G = true) : (∀ b ∈ F.2, b ∉ G.1) ∧ ∀ b ∈ G.2, b ∉ F.1 := by
 simp only [indep, Bool.and_eq_true, List.all_eq_true] at h
 exact ⟨fun b hb => by simpa using h.1 b hb, fun b hb => by simpa using h.2 b hb⟩

theorem getD_put {ts : List PV} {d : Option Tmp} {y : PV} {t : Nat} (h : ∀ e, d = some e → e ≠ t) : (put ts d y).getD t .top = ts.getD t .top := by
 cases d with
 | none => rfl
 | some e => exact getD_set_other _ _ _ _ _ (h e rfl)

theorem put_comm {ts : List PV} {d e : Option Tmp} {y z : PV} (h : ∀ t, d = some t → e ≠ some t) : put (put ts e z) d y = put (put ts d y) e z := by
 cases d with
 | none => rfl
 | some d =>
  cases e with
  | none => rfl
  | some e =>
   have : d ≠ e := fun hh => h d rfl (by rw [hh])
   exact List.set_comm _ _ (fun hh => this hh.symm)

theorem Run.swap {slot : Nat → Nat} {F : Nat → Foot} {i j : Nat} {c : List Nat} {σ σ' : St} {oi oj : Oper} (hi : ops[i]? = some oi) (hj : ops[j]? = some oj) (hap : oi.apart ops oj = true) (hin : indep (F i) (F j) = true)
  (h : Run P C M ops slot F (i :: j :: c) σ σ') : Run P C M ops slot F (j :: i :: c) σ σ' := by
 obtain ⟨o1, ⟨t1, k1⟩, e1, e2, o2, ⟨t2, k2⟩, e3, e4, e5⟩ := h
 rw [hi] at e1
 cases e1
 rw [hj] at e3
 cases e3
 obtain ⟨ts, h⟩ := σ
 obtain ⟨a1, a2, a3⟩ := Oper.apart_spec hap
 obtain ⟨b1, b2⟩ := indep_spec hin
 obtain ⟨y, rfl, c1, c2⟩ := stepF_loc e2
 obtain ⟨z, rfl, d1, d2⟩ := stepF_loc e4
 -- what op i changed of the heap
 obtain ⟨_, _, L⟩ := c2 ts h (fun _ _ => rfl) ⟨rfl, fun _ _ => rfl⟩
 obtain ⟨h', f1, L1⟩ := d2 ts h (fun t ht => (getD_put fun e he => fun hh => a1 e he (hh ▸ ht)).symm) ⟨L.l1.symm, fun b hb => ((L.off b fun hh => b1 b hh hb).1).symm⟩
 obtain ⟨h'', g1, L2⟩ := c2 (put ts oj.dst z) h' (fun t ht => getD_put fun e he => fun hh => a3 e he (hh ▸ ht)) ⟨L1.l2, fun b hb => (L1.off b fun hh => b2 b hh hb).2⟩
 refine ⟨oj, (put ts oj.dst z, h'), hj, f1, oi, (put (put ts oj.dst z) oi.dst y, h''), hi, g1, ?_⟩
 have hh : h'' = k2 := by
  apply List.ext_getElem?
  intro b
  by_cases m1 : b ∈ (F i).2
  ·have m2 : b ∉ (F j).2 := fun hh => b1 b m1 (d1 b hh)
   rw [L2.on b m1, (L1.off b m2).1]
  ·by_cases m2 : b ∈ (F j).2
   ·rw [(L2.off b m1).2, L1.on b m2]
   ·rw [(L2.off b m1).2, (L1.off b m2).2, (L1.off b m2).1, (L.off b m1).1]
 rw [hh, put_comm a2]
 exact e5

theorem Run.move {slot : Nat → Nat} {F : Nat → Foot} {j : Nat} {oj : Oper} (hj : ops[j]? = some oj) {l2 : List Nat} : ∀ {l1 : List Nat} {σ σ' : St},
  (∀ i ∈ l1, ∃ oi, ops[i]? = some oi ∧ oi.apart ops oj = true ∧ indep (F i) (F j) = true) → Run P C M ops slot F (l1 ++ j :: l2) σ σ' → Run P C M ops slot F (j :: (l1 ++ l2)) σ σ'
 | [], _, _, _, h => h
 | i :: l, σ, σ', hall, h => by
  obtain ⟨oi, hi, h1, h2⟩ := hall i (by simp)
  obtain ⟨o, σ1, e1, e2, e3⟩ := h
  have := Run.move hj (l1 := l) (fun k hk => hall k (by simp [hk])) e3
  exact Run.swap hi hj h1 h2 ⟨o, σ1, e1, e2, this⟩

end
end Go.Pu
