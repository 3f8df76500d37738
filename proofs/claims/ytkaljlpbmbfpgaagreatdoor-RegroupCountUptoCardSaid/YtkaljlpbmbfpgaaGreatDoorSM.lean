/- The pure machine: more fuel tells the same. -/
import Derived.Test.YtkaljlpbmbfpgaaGreatDoorSE
set_option linter.unusedSimpArgs false
set_option linter.unusedVariables false
namespace Go.Pu

def Below' (C C' : CallF) : Prop := ∀ f xs hc y, C f xs hc = some y → C' f xs hc = some y

section
variable {P : Program} {C C' : CallF} {M : FuncId → Bool} {R R' : Type}

theorem callCore_mono (hC : Below' C C') {al : Option Nat} {h : Heap} {f : FuncId} {xs : List PV} {v : (PV × Heap) × Foot} (hk : callCore P C M al h f xs = some v) : callCore P C' M al h f xs = some v := by
 unfold callCore at hk ⊢
 obtain ⟨ys, e1, hk⟩ := Option.bind_eq_some_iff.1 hk
 obtain ⟨ids, e2, hk⟩ := Option.bind_eq_some_iff.1 hk
 rw [e1]
 simp only [Option.bind_some]
 rw [e2]
 simp only [Option.bind_some]
 split at hk
 ·rename_i hsh
  obtain ⟨y, e3, hk⟩ := Option.bind_eq_some_iff.1 hk
  refine (if_pos hsh).trans ?_
  rw [hC _ _ _ _ e3]
  exact hk
 ·cases hk

theorem doOp_mono (hC : Below' C C') {al : Option Nat} {ts : List PV} {h : Heap} {op : Op} {v : PV × Heap} (hk : doOp P C M al ts h op = some v) : doOp P C' M al ts h op = some v := by
 cases op
 case call c =>
  simp only [doOp] at hk ⊢
  split at hk
  ·exact hk
  ·rename_i f hc
   split at hk
   ·rename_i g caps hg
    split at hk
    ·exact hk
    ·unfold callOp at hk ⊢
     cases hcc : callCore P C M al h g (evs ts c.args ++ caps) with
     | none => rw [hcc] at hk; cases hk
     | some q => rw [hcc] at hk; rw [callCore_mono hC hcc]; exact hk
   ·cases hk
  ·split at hk
   ·rename_i g y hg
    unfold callOp at hk ⊢
    cases hcc : callCore P C M al h g (y :: evs ts c.args) with
    | none => rw [hcc] at hk; cases hk
    | some q => rw [hcc] at hk; rw [callCore_mono hC hcc]; exact hk
   ·cases hk
 case makeFunc fn first caps => cases fn <;> exact hk
 case makeMap t o => cases o <;> exact hk
 case lookup t m k ok => cases ok <;> exact hk
 all_goals exact hk

theorem doOpF_mono (hC : Below' C C') {al : Option Nat} {ts : List PV} {h : Heap} {op : Op} {v : (PV × Heap) × Foot} (hk : doOpF P C M al ts h op = some v) : doOpF P C' M al ts h op = some v := by
 have base : (doOp P C M al ts h op).map (fun r => (r, footOp al ts op)) = some v → (doOp P C' M al ts h op).map (fun r => (r, footOp al ts op)) = some v := by
  intro hk
  cases hd : doOp P C M al ts h op with
  | none => rw [hd] at hk; cases hk
  | some q => rw [hd] at hk; rw [doOp_mono hC hd]; exact hk
 unfold doOpF at hk ⊢
 split at hk
 ·rename_i c
  split at hk
  ·rename_i f hc
   split at hk
   ·split at hk
    ·exact hk
    ·exact callCore_mono hC hk
   ·cases hk
  ·split at hk
   ·exact callCore_mono hC hk
   ·cases hk
  ·exact base hk
 ·exact base hk

theorem doOpG_mono (hC : Below' C C') {al : Option Nat} {ts : List PV} {h : Heap} {op : Op} {v : (PV × Heap) × Foot} (hk : doOpG P C M al ts h op = some v) : doOpG P C' M al ts h op = some v := by
 unfold doOpG at hk ⊢
 split at hk
 ·rename_i ha
  rw [if_pos ha]
  cases hd : doOpF P C M al ts h op with
  | none => rw [hd] at hk; cases hk
  | some q => rw [hd] at hk; rw [doOpF_mono hC hd]; exact hk
 ·cases hk

def KLe (k k' : List PV → Heap → Option R) : Prop := ∀ ts h r, k ts h = some r → k' ts h = some r
def KLeE (k k' : Ex → List PV → Heap → Option R) : Prop := ∀ e ts h r, k e ts h = some r → k' e ts h = some r

theorem runOps_mono (hC : Below' C C') {ops : Array Oper} {k k' : List PV → Heap → Option R} (hs : KLe k k') : ∀ (rest : List Oper) (ts : List PV) (h : Heap) (r : R), runOps P C M ops rest ts h k = some r → runOps P C' M ops rest ts h k' = some r
 | [], ts, h, r, hk => hs ts h r hk
 | o :: rest, ts, h, r, hk => by
  have go : ∀ ts, ((doOp P C M none ts h o.op).bind fun r => runOps P C M ops rest (put ts o.dst r.1) r.2 k) = some r → ((doOp P C' M none ts h o.op).bind fun r => runOps P C' M ops rest (put ts o.dst r.1) r.2 k') = some r := by
   intro ts hk
   obtain ⟨v, e1, e2⟩ := Option.bind_eq_some_iff.1 hk
   rw [doOp_mono hC e1]
   exact runOps_mono hC hs rest _ _ _ e2
  unfold runOps at hk ⊢
  dsimp only at hk ⊢
  split at hk
  ·exact go ts hk
  ·split at hk
   ·cases hk
   ·split at hk
    ·split at hk
     ·rename_i hbt
      simp only [hbt, if_true] at hk ⊢
      split at hk
      ·rename_i hw; rw [if_pos hw]; exact go _ hk
      ·rename_i hw; rw [if_neg hw]; exact runOps_mono hC hs rest _ _ _ hk
     ·rename_i hbt
      rw [if_neg hbt]
      split at hk
      ·rename_i hw; rw [if_pos hw]; exact runOps_mono hC hs rest _ _ _ hk
      ·rename_i hw; rw [if_neg hw]; exact go _ hk
    ·exact runOps_mono hC hs rest _ _ _ hk
    ·cases hk

theorem runDraw_mono (hC : Below' C C') {ops : Array Oper} {k k' : List PV → Heap → Option R} (hs : KLe k k') : ∀ (rest : List Oper) (s : Nat) (Fs : List Foot) (ts : List PV) (h : Heap) (r : R), runDraw P C M ops rest s Fs ts h k = some r →
  runDraw P C' M ops rest s Fs ts h k' = some r
 | [], s, Fs, ts, h, r, hk => by
  simp only [runDraw] at hk ⊢
  split at hk
  ·rename_i hd; rw [if_pos hd]; exact hs ts h r hk
  ·cases hk
 | o :: rest, s, Fs, ts, h, r, hk => by
  have go : ∀ ts, ((doOpG P C M (slotAt o s) ts h o.op).bind fun r => runDraw P C M ops rest (s + slotsOf o.op) (Fs ++ [r.2]) (put ts o.dst r.1.1) r.1.2 k) = some r →
    ((doOpG P C' M (slotAt o s) ts h o.op).bind fun r => runDraw P C' M ops rest (s + slotsOf o.op) (Fs ++ [r.2]) (put ts o.dst r.1.1) r.1.2 k') = some r := by
   intro ts hk
   obtain ⟨v, e1, e2⟩ := Option.bind_eq_some_iff.1 hk
   rw [doOpG_mono hC e1]
   exact runDraw_mono hC hs rest _ _ _ _ _ e2
  unfold runDraw at hk ⊢
  dsimp only at hk ⊢
  split at hk
  ·exact go ts hk
  ·split at hk
   ·cases hk
   ·split at hk
    ·split at hk
     ·rename_i hbt
      simp only [hbt, if_true] at hk ⊢
      split at hk
      ·rename_i hw; rw [if_pos hw]; exact go _ hk
      ·rename_i hw; rw [if_neg hw]; exact runDraw_mono hC hs rest _ _ _ _ _ hk
     ·rename_i hbt
      rw [if_neg hbt]
      split at hk
      ·rename_i hw; rw [if_pos hw]; exact runDraw_mono hC hs rest _ _ _ _ _ hk
      ·rename_i hw; rw [if_neg hw]; exact go _ hk
    ·exact runDraw_mono hC hs rest _ _ _ _ _ hk
    ·cases hk

theorem loopN_mono {runA runB : List PV → Heap → (Ex → List PV → Heap → Option R) → Option R} {clean : Ex → List PV → Heap → Option (List PV × Heap)} (hr : ∀ ts h k k' r, KLeE k k' → runA ts h k = some r → runB ts h k' = some r)
  {k k' : Ex → List PV → Heap → Option R} (hs : KLeE k k') : ∀ (n n' : Nat) (ts : List PV) (h : Heap) (r : R), n ≤ n' → loopN runA clean n ts h k = some r → loopN runB clean n' ts h k' = some r
 | 0, _, _, _, _, _, hk => by cases hk
 | n + 1, 0, _, _, _, hn, _ => by omega
 | n + 1, n' + 1, ts, h, r, hn, hk => by
  simp only [loopN] at hk ⊢
  obtain ⟨c, e1, e2⟩ := Option.bind_eq_some_iff.1 hk
  rw [e1]
  simp only [Option.bind_some]
  refine hr _ _ _ _ _ ?_ e2
  intro e ts' h' r' hk'
  cases e with
  | normal => exact loopN_mono hr hs n n' ts' h' r' (by omega) hk'
  | exit i =>
   obtain ⟨c2, f1, f2⟩ := Option.bind_eq_some_iff.1 hk'
   exact Option.bind_eq_some_iff.2 ⟨c2, f1, hs _ _ _ _ f2⟩
  | ret =>
   obtain ⟨c2, f1, f2⟩ := Option.bind_eq_some_iff.1 hk'
   exact Option.bind_eq_some_iff.2 ⟨c2, f1, hs _ _ _ _ f2⟩

theorem run_mono (hC : Below' C C') {n n' kk : Nat} (hn : n ≤ n') {live : Nat → Option (List Nat)} : ∀ (c : Code) (ts : List PV) (h : Heap) (k k' : Ex → List PV → Heap → Option R) (r : R), KLeE k k' → run P C M n kk live c ts h k = some r →
  run P C' M n' kk live c ts h k' = some r := by
 intro c
 induction c with
 | skip => intro ts h k F r hs hk; exact hs _ _ _ _ hk
 | label l => intro ts h k F r hs hk; exact hs _ _ _ _ hk
 | region id ops d =>
  intro ts h k F r hs hk
  simp only [run] at hk ⊢
  split at hk
  ·rename_i hd
   rw [if_pos hd]
   split at hk
   ·rename_i hst
    rw [if_pos hst]
    exact runDraw_mono hC (fun ts h r hk => hs _ _ _ _ hk) _ _ _ _ _ _ hk
   ·cases hk
  ·rename_i hd
   rw [if_neg hd]
   exact runOps_mono hC (fun ts h r hk => hs _ _ _ _ hk) _ _ _ _ hk
 | seq x y ihx ihy =>
  intro ts h k F r hs hk
  simp only [run] at hk ⊢
  refine ihx _ _ _ _ _ ?_ hk
  intro e ts' h' r' hk'
  cases e with
  | normal => exact ihy _ _ _ _ _ hs hk'
  | exit i => exact hs _ _ _ _ hk'
  | ret => exact hs _ _ _ _ hk'
 | cond c x y ihx ihy =>
  intro ts h k F r hs hk
  simp only [run] at hk ⊢
  split at hk
  ·split at hk
   ·rename_i hc; rw [if_pos hc]; exact ihx _ _ _ _ _ hs hk
   ·rename_i hc; rw [if_neg hc]; exact ihy _ _ _ _ _ hs hk
  ·cases hk
 | block id x ih =>
  intro ts h k F r hs hk
  simp only [run] at hk ⊢
  refine ih _ _ _ _ _ ?_ hk
  intro e ts' h' r' hk'
  cases e with
  | normal => exact hs _ _ _ _ hk'
  | exit i =>
   dsimp only at hk' ⊢
   split at hk'
   ·rename_i hi; rw [if_pos hi]; exact hs _ _ _ _ hk'
   ·rename_i hi; rw [if_neg hi]; exact hs _ _ _ _ hk'
  | ret => exact hs _ _ _ _ hk'
 | loop x ih =>
  intro ts h k F r hs hk
  simp only [run] at hk ⊢
  exact loopN_mono (fun ts h k F r hs hk => ih ts h k F r hs hk) hs n n' ts h r hn hk
 | scope x ih => intro ts h k F r hs hk; exact ih _ _ _ _ _ hs hk
 | exit i => intro ts h k F r hs hk; exact hs _ _ _ _ hk
 | ret => intro ts h k F r hs hk; exact hs _ _ _ _ hk
 | goto l => intro ts h k F r hs hk; simp [run] at hk
 | _ => intros; rename_i hk; simp [run] at hk

theorem call_mono {X : Ext} {L : FuncId → Nat → Option (List Nat)} : ∀ (n n' : Nat), n ≤ n' → Below' (call P X M L n) (call P X M L n')
 | 0, _, _ => fun f xs hc y h => by cases h
 | n + 1, 0, hn => by omega
 | n + 1, n' + 1, hn => fun f xs hc y h => by
  have ih := call_mono (X := X) (L := L) n n' (by omega)
  simp only [call] at h ⊢
  split at h
  ·exact h
  ·split at h
   ·cases h
   ·split at h
    ·cases h
    ·rename_i body hb
     exact run_mono ih (by omega) body _ _ _ _ _ (fun e ts h r hk => hk) h

end
end Go.Pu
