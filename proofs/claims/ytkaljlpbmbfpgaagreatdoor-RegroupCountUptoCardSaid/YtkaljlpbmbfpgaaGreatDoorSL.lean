/- The pure machine: what the second form tells of code and functions, the first one tells with fuel enough. -/
import Derived.Test.YtkaljlpbmbfpgaaGreatDoorSK
set_option linter.unusedSimpArgs false
set_option linter.unusedVariables false
namespace Go.Pu

section
variable {R : Type} {P : Program} {X : Ext} {M : FuncId → Bool} {L : FuncId → Nat → Option (List Nat)} {CK : CallK R}

/-- one round, and what is behind it -/
theorem LoopTo.next {kk : Nat} {live : Nat → Option (List Nat)} {a : Code} {ts : List PV} {h : Heap} {c : List PV × Heap} {ts' : List PV} {h' : Heap} {o : Out} {N1 N2 : Nat} (hc : cleanX P kk live (rid a) .normal ts h = some c) (h1 : RunsTo P X M L N1 kk live a c.1 c.2 (.normal, ts', h'))
  (h2 : LoopTo P X M L N2 kk live a ts' h' o) : ∃ N, LoopTo P X M L N kk live a ts h o := by
 have g1 := h1.mono (N' := max N1 N2 + 1) (by omega)
 refine ⟨max N1 N2 + 1, ?_⟩
 unfold LoopTo RunsTo at *
 simp only [loopN, hc, Option.bind_some]
 rw [run_bind, g1]
 simp only [Option.bind_some]
 exact loopN_mono (fun ts h k k' r hs hh => run_mono (call_mono N2 (max N1 N2 + 1) (by omega)) (by omega) a ts h k k' r hs hh) (fun _ _ _ _ h => h) N2 (max N1 N2) ts' h' o (by omega) h2

theorem LoopTo.stop {kk : Nat} {live : Nat → Option (List Nat)} {a : Code} {ts : List PV} {h : Heap} {c c' : List PV × Heap} {e : Ex} {ts' : List PV} {h' : Heap} {N1 : Nat} (he : e ≠ .normal) (hc : cleanX P kk live (rid a) .normal ts h = some c) (h1 : RunsTo P X M L N1 kk live a c.1 c.2 (e, ts', h'))
  (hc' : cleanX P kk live (rid a) e ts' h' = some c') : ∃ N, LoopTo P X M L N kk live a ts h (e, c'.1, c'.2) := by
 have g1 := h1.mono (N' := N1 + 1) (by omega)
 refine ⟨N1 + 1, ?_⟩
 unfold LoopTo RunsTo at *
 simp only [loopN, hc, Option.bind_some]
 rw [run_bind, g1]
 simp only [Option.bind_some]
 cases e with
 | normal => exact absurd rfl he
 | exit i => simp only [hc', Option.bind_some]; rfl
 | ret => simp only [hc', Option.bind_some]; rfl

theorem loopK_ev {kk : Nat} {live : Nat → Option (List Nat)} {a : Code} {runA : List PV → Heap → (Ex → List PV → Heap → Option R) → Option R}
  (hr : ∀ ts h k r, runA ts h k = some r → ∃ N o, RunsTo P X M L N kk live a ts h o ∧ k o.1 o.2.1 o.2.2 = some r) {k : Ex → List PV → Heap → Option R} {r : R} :
  ∀ (n : Nat) (ts : List PV) (h : Heap), loopN runA (cleanX P kk live (rid a)) n ts h k = some r → ∃ N o, LoopTo P X M L N kk live a ts h o ∧ k o.1 o.2.1 o.2.2 = some r
 | 0, _, _, hk => by cases hk
 | n + 1, ts, h, hk => by
  simp only [loopN] at hk
  obtain ⟨c, e1, hk⟩ := bindK hk
  obtain ⟨N1, ⟨e, ts', h'⟩, e2, e3⟩ := hr _ _ _ _ hk
  cases e with
  | normal =>
   obtain ⟨N2, o, e4, e5⟩ := loopK_ev hr n ts' h' e3
   obtain ⟨N, e6⟩ := LoopTo.next e1 e2 e4
   exact ⟨N, o, e6, e5⟩
  | exit i =>
   obtain ⟨c', e4, e5⟩ := bindK e3
   obtain ⟨N, e6⟩ := LoopTo.stop (by simp) e1 e2 e4
   exact ⟨N, _, e6, e5⟩
  | ret =>
   obtain ⟨c', e4, e5⟩ := bindK e3
   obtain ⟨N, e6⟩ := LoopTo.stop (by simp) e1 e2 e4
   exact ⟨N, _, e6, e5⟩

theorem runK_ev (hC : CallKIn (InS P X M L) CK) {LS : Nat → Option (Smy R)} {n kk : Nat} {live : Nat → Option (List Nat)} : ∀ (c : Code) (ts : List PV) (h : Heap) (k : Ex → List PV → Heap → Option R) (r : R), LSOK P X M L LS kk live c → runK br P CK M LS n kk live c ts h k = some r →
  ∃ N o, RunsTo P X M L N kk live c ts h o ∧ k o.1 o.2.1 o.2.2 = some r := by
 intro c
 induction c with
 | skip => intro ts h k r hl hk; exact ⟨0, (.normal, ts, h), rfl, hk⟩
 | label l => intro ts h k r hl hk; exact ⟨0, (.normal, ts, h), rfl, hk⟩
 | region id ops d =>
  intro ts h k r hl hk
  simp only [runK] at hk
  unfold RunsTo
  simp only [run]
  split at hk
  ·rename_i hd
   simp only [hd, if_true]
   split at hk
   ·rename_i hst
    simp only [hst, if_true]
    obtain ⟨N, q, e1, e2⟩ := runDrawK_ev hC _ _ _ _ _ hk
    exact ⟨N, (.normal, q.1, q.2), by rw [runDraw_bind, e1]; rfl, e2⟩
   ·cases hk
  ·rename_i hd
   simp only [hd, if_false]
   obtain ⟨N, q, e1, e2⟩ := runOpsK_ev hC _ _ _ hk
   exact ⟨N, (.normal, q.1, q.2), by rw [if_neg (by simp), runOps_bind, e1]; rfl, e2⟩
 | seq x y ihx ihy =>
  intro ts h k r hl hk
  simp only [runK] at hk
  obtain ⟨N1, ⟨e, ts', h'⟩, e1, e2⟩ := ihx _ _ _ _ (fun a ha => hl a (by simp only [loopsIn, List.mem_append]; exact .inl ha)) hk
  cases e with
  | normal =>
   obtain ⟨N2, o, e3, e4⟩ := ihy _ _ _ _ (fun a ha => hl a (by simp only [loopsIn, List.mem_append]; exact .inr ha)) e2
   refine ⟨max N1 N2, o, ?_, e4⟩
   have g1 := e1.mono (N' := max N1 N2) (Nat.le_max_left _ _)
   have g2 := e3.mono (N' := max N1 N2) (Nat.le_max_right _ _)
   unfold RunsTo at *
   simp only [run]
   rw [run_bind, g1]
   exact g2
  | exit i =>
   refine ⟨N1, (.exit i, ts', h'), ?_, e2⟩
   unfold RunsTo at *
   simp only [run]
   rw [run_bind, e1]
   rfl
  | ret =>
   refine ⟨N1, (.ret, ts', h'), ?_, e2⟩
   unfold RunsTo at *
   simp only [run]
   rw [run_bind, e1]
   rfl
 | cond c x y ihx ihy =>
  intro ts h k r hl hk
  simp only [runK] at hk
  split at hk
  ·rename_i t ht
   rw [br_if] at hk
   split at hk
   ·rename_i hc
    obtain ⟨N, o, e1, e2⟩ := ihx _ _ _ _ (fun a ha => hl a (by simp only [loopsIn, List.mem_append]; exact .inl ha)) hk
    rw [hc] at ht
    rw [known_self ht] at e1
    exact ⟨N, o, by unfold RunsTo at *; simp only [run, ht, if_true]; exact e1, e2⟩
   ·rename_i hc
    obtain ⟨N, o, e1, e2⟩ := ihy _ _ _ _ (fun a ha => hl a (by simp only [loopsIn, List.mem_append]; exact .inr ha)) hk
    rw [Bool.not_eq_true] at hc
    rw [hc] at ht
    rw [known_self ht] at e1
    exact ⟨N, o, by unfold RunsTo at *; simp only [run, ht, Bool.false_eq_true, if_false]; exact e1, e2⟩
  ·cases hk
 | block id x ih =>
  intro ts h k r hl hk
  simp only [runK] at hk
  obtain ⟨N1, ⟨e, ts', h'⟩, e1, e2⟩ := ih _ _ _ _ (fun a ha => hl a ha) hk
  cases e with
  | normal => exact ⟨N1, (.normal, ts', h'), by unfold RunsTo at *; simp only [run]; rw [run_bind, e1]; rfl, e2⟩
  | exit i =>
   dsimp only at e2
   split at e2
   ·rename_i hi; exact ⟨N1, (.normal, ts', h'), by unfold RunsTo at *; simp only [run]; rw [run_bind, e1]; exact if_pos hi, e2⟩
   ·rename_i hi; exact ⟨N1, (.exit i, ts', h'), by unfold RunsTo at *; simp only [run]; rw [run_bind, e1]; exact if_neg hi, e2⟩
  | ret => exact ⟨N1, (.ret, ts', h'), by unfold RunsTo at *; simp only [run]; rw [run_bind, e1]; rfl, e2⟩
 | loop x ih =>
  intro ts h k r hl hk
  simp only [runK] at hk
  have up : ∀ {N : Nat} {o : Out}, LoopTo P X M L N kk live x ts h o → RunsTo P X M L N kk live (.loop x) ts h o := fun hh => hh
  split at hk
  ·rename_i g hg
   obtain ⟨c, e0, hk⟩ := bindK hk
   obtain ⟨N, o, e1, e2⟩ := hl x (by simp [loopsIn]) g hg ts h c k r e0 hk
   exact ⟨N, o, up e1, e2⟩
  ·obtain ⟨N, o, e1, e2⟩ := loopK_ev (fun ts h k r hk => ih ts h k r (fun a ha => hl a (by simp only [loopsIn, List.mem_cons]; exact .inr ha)) hk) n ts h hk
   exact ⟨N, o, up e1, e2⟩
 | scope x ih => intro ts h k r hl hk; exact ih _ _ _ _ (fun a ha => hl a ha) hk
 | exit i => intro ts h k r hl hk; exact ⟨0, (.exit i, ts, h), rfl, hk⟩
 | ret => intro ts h k r hl hk; exact ⟨0, (.ret, ts, h), rfl, hk⟩
 | goto l => intro ts h k r hl hk; simp [runK] at hk
 | _ => intros; rename_i hk; simp [runK] at hk

/-- the table of loops is right, all over a program -/
def LoopsOK (P : Program) (X : Ext) (M : FuncId → Bool) (L : FuncId → Nat → Option (List Nat)) (LS : FuncId → Nat → Nat → Option (Smy R)) : Prop :=
 ∀ f fn body kk, P.funcs[f]? = some fn → fn.body = some body → LSOK P X M L (LS f kk) kk (L f) body

theorem callK_ev {LS : FuncId → Nat → Nat → Option (Smy R)} (hLS : LoopsOK P X M L LS) (n : Nat) : CallKIn (InS P X M L) (callK br P X M L LS n) := by
 induction n with
 | zero => intro f xs hc k r h; cases h
 | succ n ih =>
  intro f xs hc k r h
  simp only [callK] at h
  split at h
  ·rename_i g hg
   obtain ⟨y, e1, e2⟩ := Tr.go_val h
   exact ⟨_, y, ⟨1, rfl⟩, by simp only [call, hg, e1], e2⟩
  ·rename_i hX
   split at h
   ·cases h
   ·rename_i fn hfn
    split at h
    ·cases h
    ·rename_i body hb
     obtain ⟨N, ⟨e, ts', h'⟩, e1, e2⟩ := runK_ev ih body _ _ _ _ (hLS f fn body _ hfn hb) h
     have fin : (finish P fn hc.length ts' h').bind k = some r → e ≠ .normal ∧ (∀ i, e ≠ .exit i) ∨ e = .normal → ∃ C y, InS P X M L C ∧ C f xs hc = some y ∧ k y = some r := by
      intro hk he
      obtain ⟨y, f1, f2⟩ := bindK hk
      refine ⟨_, y, ⟨N + 1, rfl⟩, ?_, f2⟩
      simp only [call, hX, hfn, hb]
      unfold RunsTo at e1
      rw [run_bind, e1]
      simp only [Option.bind_some]
      cases e with
      | normal => exact f1
      | exit i => rcases he with ⟨_, he⟩ | he
                  ·exact absurd rfl (he i)
                  ·cases he
      | ret => exact f1
     cases e with
     | normal => exact fin e2 (.inr rfl)
     | exit i => cases e2
     | ret => exact fin e2 (.inl ⟨by simp, by simp⟩)

/-- a loop's summary tells what the loop tells -/
def LoopTells (P : Program) (X : Ext) (M : FuncId → Bool) (L : FuncId → Nat → Option (List Nat)) (kk : Nat) (live : Nat → Option (List Nat)) (a : Code) (g : Smy R) : Prop :=
 ∀ ts h c k r, cleanX P kk live (rid a) .normal ts h = some c → g c.1 c.2 k = some r → ∃ N o, LoopTo P X M L N kk live a ts h o ∧ k o.1 o.2.1 o.2.2 = some r

def loopBody (P : Program) (f i : Nat) : Option Code := ((P.funcs[f]?).bind (·.body)).bind fun c => (loopsIn c).find? fun a => rid a == i

def ridsOK (P : Program) : Bool := P.funcs.toList.all fun fn => match fn.body with | none => true | some c => nodup ((loopsIn c).map rid)

theorem find_of_nodup {i : Nat} : ∀ {l : List Code} {a : Code}, nodup (l.map rid) = true → a ∈ l → rid a = i → l.find? (fun a => rid a == i) = some a
 | [], a, _, h, _ => by simp at h
 | b :: l, a, hn, h, he => by
  simp only [List.map_cons, nodup, Bool.and_eq_true] at hn
  rcases List.mem_cons.1 h with rfl | h
  ·simp [List.find?_cons, he]
  ·have hne : rid b ≠ i := fun hb => by
    have h1 : rid a ∈ l.map rid := List.mem_map.2 ⟨a, h, rfl⟩
    have h2 := hn.1
    simp only [Bool.not_eq_true'] at h2
    have h3 : (l.map rid).contains (rid b) = true := by rw [hb, ← he]; simpa using h1
    rw [h3] at h2; cases h2
   have hne' : (rid b == i) = false := by simpa using hne
   rw [List.find?_cons, hne']
   exact find_of_nodup hn.2 h he

theorem loopsOK_of {LS : FuncId → Nat → Nat → Option (Smy R)} (hr : ridsOK P = true) (h : ∀ f kk i g a, LS f kk i = some g → loopBody P f i = some a → LoopTells P X M L kk (L f) a g) : LoopsOK P X M L LS := by
 intro f fn body kk hf hb a ha g hg
 refine h f kk (rid a) g a hg ?_
 unfold loopBody
 rw [hf]
 simp only [Option.bind_some, hb]
 have hm : fn ∈ P.funcs.toList := by simpa using Array.mem_of_getElem? hf
 have := List.all_eq_true.1 hr fn hm
 rw [hb] at this
 exact find_of_nodup this ha rfl

end
end Go.Pu
