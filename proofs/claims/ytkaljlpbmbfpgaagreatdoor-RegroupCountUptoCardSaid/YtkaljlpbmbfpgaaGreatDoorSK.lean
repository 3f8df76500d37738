/- The pure machine: what the second form tells, the first one tells with fuel enough. -/
import Derived.Test.YtkaljlpbmbfpgaaGreatDoorSJ
set_option linter.unusedSimpArgs false
set_option linter.unusedVariables false
namespace Go.Pu

def loopsIn : Code → List Code
 | .seq a b => loopsIn a ++ loopsIn b
 | .cond _ a b => loopsIn a ++ loopsIn b
 | .block _ a => loopsIn a
 | .loop a => a :: loopsIn a
 | .scope a => loopsIn a
 | _ => []

section
variable {R : Type} (P : Program) (X : Ext) (M : FuncId → Bool) (L : FuncId → Nat → Option (List Nat))

def InS (C : CallF) : Prop := ∃ N, C = call P X M L N

def RunsTo (N kk : Nat) (live : Nat → Option (List Nat)) (c : Code) (ts : List PV) (h : Heap) (o : Out) : Prop := run P (call P X M L N) M N kk live c ts h idk = some o

def LoopTo (N kk : Nat) (live : Nat → Option (List Nat)) (a : Code) (ts : List PV) (h : Heap) (o : Out) : Prop :=
 loopN (run P (call P X M L N) M N kk live a) (cleanX P kk live (rid a)) N ts h idk = some o

/-- the loops' table is right for some code -/
def LSOK (LS : Nat → Option (Smy R)) (kk : Nat) (live : Nat → Option (List Nat)) (c : Code) : Prop :=
 ∀ a ∈ loopsIn c, ∀ g, LS (rid a) = some g → ∀ ts h c k r, cleanX P kk live (rid a) .normal ts h = some c → g c.1 c.2 k = some r → ∃ N o, LoopTo P X M L N kk live a ts h o ∧ k o.1 o.2.1 o.2.2 = some r
end

section
variable {R : Type} {P : Program} {X : Ext} {M : FuncId → Bool} {L : FuncId → Nat → Option (List Nat)} {CK : CallK R}

theorem RunsTo.mono {N N' kk : Nat} {live : Nat → Option (List Nat)} {c : Code} {ts : List PV} {h : Heap} {o : Out} (hn : N ≤ N') (hr : RunsTo P X M L N kk live c ts h o) : RunsTo P X M L N' kk live c ts h o :=
 run_mono (call_mono N N' hn) hn c ts h idk idk o (fun _ _ _ _ h => h) hr

theorem LoopTo.mono {N N' kk : Nat} {live : Nat → Option (List Nat)} {a : Code} {ts : List PV} {h : Heap} {o : Out} (hn : N ≤ N') (hr : LoopTo P X M L N kk live a ts h o) : LoopTo P X M L N' kk live a ts h o :=
 loopN_mono (fun ts h k k' r hs hh => run_mono (call_mono N N' hn) hn a ts h k k' r hs hh) (fun _ _ _ _ h => h) N N' ts h o hn hr

theorem inS_nonempty : ∃ C, InS P X M L C := ⟨_, 0, rfl⟩

theorem runOpsK_ev (hC : CallKIn (InS P X M L) CK) {ops : Array Oper} {k : List PV → Heap → Option R} {r : R} : ∀ (rest : List Oper) (ts : List PV) (h : Heap), runOpsK br P CK M ops rest ts h k = some r →
  ∃ N q, runOps P (call P X M L N) M ops rest ts h idk2 = some q ∧ k q.1 q.2 = some r
 | [], ts, h, hk => ⟨0, (ts, h), rfl, hk⟩
 | o :: rest, ts, h, hk => by
  have go : ∀ ts, (doOpK br P CK M none ts h o.op fun r => runOpsK br P CK M ops rest (put ts o.dst r.1.1) r.1.2 k) = some r →
    ∃ N q, ((doOp P (call P X M L N) M none ts h o.op).bind fun r => runOps P (call P X M L N) M ops rest (put ts o.dst r.1) r.2 idk2) = some q ∧ k q.1 q.2 = some r := by
   intro ts hk
   obtain ⟨C, v, ⟨N1, rfl⟩, e1, e2⟩ := doOpK_spec hC inS_nonempty hk
   obtain ⟨N2, q, e3, e4⟩ := runOpsK_ev hC rest _ _ e2
   refine ⟨max N1 N2, q, ?_, e4⟩
   rw [doOp_mono (call_mono N1 (max N1 N2) (Nat.le_max_left _ _)) (doOpF_doOp e1)]
   exact runOps_mono (call_mono N2 (max N1 N2) (Nat.le_max_right _ _)) (fun _ _ _ h => h) rest _ _ _ e3
  unfold runOpsK at hk
  unfold runOps
  dsimp only at hk ⊢
  split at hk
  ·rename_i hg; simp only [hg]; exact go ts hk
  ·rename_i j want hg
   simp only [hg]
   split at hk
   ·cases hk
   ·rename_i d hd
    simp only [hd]
    split at hk
    ·rename_i b hb
     simp only [hb]
     rw [br_if] at hk
     split at hk
     ·rename_i hbt
      simp only [if_pos hbt]
      split at hk
      ·rename_i hw; simp only [if_pos hw]; exact go _ hk
      ·rename_i hw; simp only [if_neg hw]; exact runOpsK_ev hC rest _ _ hk
     ·rename_i hbt
      simp only [if_neg hbt]
      split at hk
      ·rename_i hw; simp only [if_pos hw]; exact runOpsK_ev hC rest _ _ hk
      ·rename_i hw; simp only [if_neg hw]; exact go _ hk
    ·rename_i hb
     simp only [hb]
     exact runOpsK_ev hC rest _ _ hk
    ·cases hk

theorem runDrawK_ev (hC : CallKIn (InS P X M L) CK) {ops : Array Oper} {k : List PV → Heap → Option R} {r : R} : ∀ (rest : List Oper) (s : Nat) (Fs : List Foot) (ts : List PV) (h : Heap), runDrawK br P CK M ops rest s Fs ts h k = some r →
  ∃ N q, runDraw P (call P X M L N) M ops rest s Fs ts h idk2 = some q ∧ k q.1 q.2 = some r
 | [], s, Fs, ts, h, hk => by
  simp only [runDrawK] at hk
  simp only [runDraw]
  split at hk
  ·rename_i hd; exact ⟨0, (ts, h), by rw [if_pos hd]; rfl, hk⟩
  ·cases hk
 | o :: rest, s, Fs, ts, h, hk => by
  have go : ∀ ts, (if alFree h (slotAt o s) then doOpK br P CK M (slotAt o s) ts h o.op fun r => runDrawK br P CK M ops rest (s + slotsOf o.op) (Fs ++ [(slotIds (slotAt o s) 1 ++ r.2.1, r.2.2)]) (put ts o.dst r.1.1) r.1.2 k else none) = some r →
    ∃ N q, ((doOpG P (call P X M L N) M (slotAt o s) ts h o.op).bind fun r => runDraw P (call P X M L N) M ops rest (s + slotsOf o.op) (Fs ++ [r.2]) (put ts o.dst r.1.1) r.1.2 idk2) = some q ∧ k q.1 q.2 = some r := by
   intro ts hk
   split at hk
   ·rename_i ha
    obtain ⟨C, v, ⟨N1, rfl⟩, e1, e2⟩ := doOpK_spec hC inS_nonempty hk
    obtain ⟨N2, q, e3, e4⟩ := runDrawK_ev hC rest _ _ _ _ e2
    refine ⟨max N1 N2, q, ?_, e4⟩
    have hg : doOpG P (call P X M L N1) M (slotAt o s) ts h o.op = some (v.1, (slotIds (slotAt o s) 1 ++ v.2.1, v.2.2)) := by
     unfold doOpG
     rw [if_pos ha, e1]; rfl
    rw [doOpG_mono (call_mono N1 (max N1 N2) (Nat.le_max_left _ _)) hg]
    exact runDraw_mono (call_mono N2 (max N1 N2) (Nat.le_max_right _ _)) (fun _ _ _ h => h) rest _ _ _ _ _ e3
   ·cases hk
  unfold runDrawK at hk
  unfold runDraw
  dsimp only at hk ⊢
  split at hk
  ·rename_i hg; simp only [hg]; exact go ts hk
  ·rename_i j want hg
   simp only [hg]
   split at hk
   ·cases hk
   ·rename_i d hd
    simp only [hd]
    split at hk
    ·rename_i b hb
     simp only [hb]
     rw [br_if] at hk
     split at hk
     ·rename_i hbt
      simp only [if_pos hbt]
      split at hk
      ·rename_i hw; simp only [if_pos hw]; exact go _ hk
      ·rename_i hw; simp only [if_neg hw]; exact runDrawK_ev hC rest _ _ _ _ hk
     ·rename_i hbt
      simp only [if_neg hbt]
      split at hk
      ·rename_i hw; simp only [if_pos hw]; exact runDrawK_ev hC rest _ _ _ _ hk
      ·rename_i hw; simp only [if_neg hw]; exact go _ hk
    ·rename_i hb
     simp only [hb]
     exact runDrawK_ev hC rest _ _ _ _ hk
    ·cases hk

end
end Go.Pu
