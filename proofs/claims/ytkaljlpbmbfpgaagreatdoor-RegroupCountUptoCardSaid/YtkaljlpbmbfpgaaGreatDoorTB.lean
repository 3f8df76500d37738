/- Told loops, told functions: their summaries are right, by their equations. -/
import Derived.Test.YtkaljlpbmbfpgaaGreatDoorTA
set_option linter.unusedSimpArgs false
set_option linter.unusedVariables false
namespace Go.Pu

section
variable {α : Type}

def fU : List U → (List U → α) → α
 | [], k => k []
 | .i x :: us, k => fU us fun us => k (.i x :: us)
 | .b x :: us, k => fU us fun us => k (.b x :: us)
 | .s x :: us, k => fU us fun us => k (.s x :: us)
 | .l x :: us, k => fU us fun us => k (.l x :: us)
 | .n x :: us, k => fU us fun us => k (.n x :: us)
 | .c x :: us, k => fU us fun us => k (.c x :: us)

@[simp] theorem fU_eq : ∀ (l : List U) (k : List U → α), fU l k = k l
 | [], k => rfl
 | .i x :: us, k => by simp [fU, fU_eq us]
 | .b x :: us, k => by simp [fU, fU_eq us]
 | .s x :: us, k => by simp [fU, fU_eq us]
 | .l x :: us, k => by simp [fU, fU_eq us]
 | .n x :: us, k => by simp [fU, fU_eq us]
 | .c x :: us, k => by simp [fU, fU_eq us]
end

/-- a state's shape: places, blocks -/
structure Sh where
 pl : List (Nat × Q)
 hp : List BQ

def wp : List (Nat × Q) → Nat
 | [] => 0
 | (_, q) :: r => q.w + wp r

def encP (us : List U) : Nat → List (Nat × Q) → List (Nat × PV)
 | _, [] => []
 | n, (p, q) :: r => (p, q.enc us n) :: encP us (n + q.w) r

def Sh.ts (s : Sh) (n : Nat) (us : List U) : List PV := Go.Pu.pl n (encP us 0 s.pl)
def Sh.h (s : Sh) (us : List U) : Heap := encH us (wp s.pl) s.hp

def decP (ts : List PV) : List (Nat × Q) → Option (List U)
 | [] => some []
 | (p, q) :: r => (q.dec (ts.getD p .top)).bind fun a => (decP ts r).bind fun b => some (a ++ b)

theorem decP_enc {ts : List PV} : ∀ {l : List (Nat × Q)} {us : List U}, decP ts l = some us → ∀ pre post : List U, encP (pre ++ us ++ post) pre.length l = l.map (fun p => (p.1, ts.getD p.1 .top)) ∧ us.length = wp l
 | [], us, h, pre, post => by cases h; exact ⟨rfl, rfl⟩
 | (p, q) :: r, us, h, pre, post => by
  simp only [decP, Option.bind_eq_some_iff, Option.some.injEq] at h
  obtain ⟨a, h1, b, h2, rfl⟩ := h
  obtain ⟨e1, e2⟩ := Q.dec_enc h1 pre (b ++ post)
  obtain ⟨f1, f2⟩ := decP_enc h2 (pre ++ a) post
  rw [← app3'] at e1
  rw [← app3, List.length_append, e2] at f1
  simp only [encP, wp, List.length_append, List.map_cons]
  exact ⟨by rw [e1, f1], by omega⟩

theorem noneIn {α : Type} {p : α → Prop} : ∀ e ∈ ([] : List α), p e := fun _ h => by cases h

structure LSp where
 n : Nat
 s : Sh
 outs : List (Ex × Sh)

def LSp.good (S : LSp) (l : List Nat) : Bool := (l.map (· % 1000000)).all (fun i => (S.s.pl.map (·.1)).contains i) && nodup (S.s.pl.map (·.1)) && (S.s.pl.map (·.1)).all fun i => decide (i < S.n)

def outsGo {R : Type} (B : Bool → Option R → Option R → Option R) (n : Nat) (r : Rs) (k : Ex → List PV → Heap → Option R) : Nat → List (Ex × Sh) → Option R
 | _, [] => none
 | j, (e, s) :: rest => B (ok r j) (match e with | .normal => none | e => k e (s.ts n (out r j)) (s.h (out r j))) (outsGo B n r k (j + 1) rest)

def LSp.fin (S : LSp) (j : Nat) (us : List U) : Option Out := (S.outs[j]?).bind fun o => match o.1 with | .normal => none | e => some (e, o.2.ts S.n us, o.2.h us)

noncomputable def gL {R : Type} (S : LSp) (rd : List U → Rt) (B : Bool → Option R → Option R → Option R) : Smy R := fun ts h k =>
 if ts.length = S.n then
  match decP ts S.s.pl with
  | none => none
  | some a => match decH S.s.hp h with
   | none => none
   | some b => fU (a ++ b) fun us => outsGo B S.n (lres rd us) k 0 S.outs
 else none

theorem outsGo_some {R : Type} {n : Nat} {r : Rs} {k : Ex → List PV → Heap → Option R} {x : R} : ∀ {l : List (Ex × Sh)} {j : Nat}, outsGo br n r k j l = some x →
  ∃ i o us, l[i]? = some o ∧ r = some (j + i, us) ∧ o.1 ≠ .normal ∧ k o.1 (o.2.ts n us) (o.2.h us) = some x
 | [], j, h => by cases h
 | (e, s) :: rest, j, h => by
  simp only [outsGo, br_if] at h
  split at h
  ·rename_i hk
   refine ⟨0, (e, s), out r j, rfl, ok_some hk, ?_⟩
   cases e with
   | normal => cases h
   | exit i => exact ⟨by simp, h⟩
   | ret => exact ⟨by simp, h⟩
  ·obtain ⟨i, o, us, h1, h2, h3, h4⟩ := outsGo_some h
   exact ⟨i + 1, o, us, by simpa using h1, by rw [h2]; congr 2; omega, h3, h4⟩

section
variable {P : Program} {X : Ext} {M : FuncId → Bool} {L : FuncId → Nat → Option (List Nat)}

theorem loopTold {R : Type} {CK : CallK Out} (hC : CallKIn (InS P X M L) CK) {LS : Nat → Option (Smy Out)} {n kk q : Nat} {live : Nat → Option (List Nat)} {a : Code} (hL : LSOK P X M L LS kk live a) (hq : rid a = q)
  (S : LSp) (rd : List U → Rt) {l : List Nat} (hl : live q = some l) (hg : S.good l = true)
  (heq : ∀ us v, (rd us).val = some v → runK br P CK M LS n kk live a (S.s.ts S.n us) (S.s.h us) (idc P kk live q) =
   (rd us).go br (fun us' => some (.normal, S.s.ts S.n us', S.s.h us')) S.fin) :
  LoopTells P X M L kk live a (gL (R := R) S rd br) := by
 subst hq
 refine loopTells_of (n := n) hC hL (fun s : List U × Nat => ∃ o, It rd s.2 s.1 = some o ∧ S.fin o.1 o.2 ≠ none) (fun s => (S.s.ts S.n s.1, S.s.h s.1))
  (fun s => s.2) (fun s => ((lres rd s.1).bind fun o => S.fin o.1 o.2).getD (.ret, [], [])) ?_ ?_
 ·intro ts h c k r hc hk
  unfold gL at hk
  split at hk
  ·rename_i hlen
   split at hk
   ·cases hk
   ·rename_i ua hua
    split at hk
    ·cases hk
    ·rename_i ub hub
     rw [fU_eq] at hk
     obtain ⟨i, o, us, h1, h2, h3, h4⟩ := outsGo_some hk
     rw [Nat.zero_add] at h2
     have hfin : S.fin i us = some (o.1, o.2.ts S.n us, o.2.h us) := by
      unfold LSp.fin
      rw [h1]
      obtain ⟨e, s⟩ := o
      cases e with
      | normal => exact absurd rfl h3
      | _ => rfl
     obtain ⟨m, hm⟩ := lres_some h2
     refine ⟨(ua ++ ub, m), ⟨_, hm, by simp only; rw [hfin]; simp⟩, ?_, ?_⟩
     ·unfold LSp.good at hg
      simp only [Bool.and_eq_true] at hg
      obtain ⟨⟨g1, g2⟩, g3⟩ := hg
      obtain ⟨e1, e2⟩ := decP_enc hua [] ub
      have e3 := decH_enc hub ua []
      simp only [List.nil_append, List.append_nil, List.length_nil] at e1 e3
      rw [e2] at e3
      refine Prod.ext ?_ ?_
      ·unfold cleanX at hc
       rw [hl] at hc
       show c.1 = Go.Pu.pl S.n (encP (ua ++ ub) 0 S.s.pl)
       refine cleaned_pl hc _ hlen ?_ ?_ ?_ ?_
       ·rw [e1]; simpa [List.map_map, Function.comp_def] using g1
       ·rw [e1]; simpa [List.map_map, Function.comp_def] using g2
       ·rw [e1]; simpa [List.map_map, Function.comp_def] using g3
       ·intro p hp
        rw [e1] at hp
        obtain ⟨x, hx, rfl⟩ := List.mem_map.1 hp
        rfl
      ·exact e3.symm
     ·simp only [h2, Option.bind_some, hfin, Option.getD_some]
      exact h4
  ·cases hk
 ·rintro ⟨us, m⟩ ⟨o, hm, hf⟩
  dsimp only at hm ⊢
  cases m with
  | zero => cases hm
  | succ m =>
   cases hv : (rd us).val with
   | none => simp [It, hv] at hm
   | some v =>
    have he := heq us v hv
    rw [Rt.go_val, hv] at he
    cases v with
    | next us' =>
     simp only at he
     simp only [It, hv] at hm
     exact ⟨_, _, he, .inl ⟨rfl, (us', m), ⟨o, hm, hf⟩, rfl, Nat.lt_succ_self m, by rw [lres_next hv]⟩⟩
    | stop j us' =>
     simp only at he
     simp only [It, hv] at hm
     cases hm
     dsimp only at hf
     cases hfin : S.fin j us' with
     | none => exact absurd hfin hf
     | some z =>
      obtain ⟨e, c⟩ := z
      rw [hfin] at he
      refine ⟨e, c, he, .inr ⟨?_, ?_⟩⟩
      ·intro h0
       subst h0
       unfold LSp.fin at hfin
       cases ho : S.outs[j]? with
       | none => rw [ho] at hfin; cases hfin
       | some o =>
        rw [ho] at hfin
        simp only [Option.bind_some] at hfin
        cases h1 : o.1 <;> rw [h1] at hfin <;> cases hfin
      ·rw [lres_stop hv]
       simp only [Option.bind_some, hfin, Option.getD_some]

/-- a loop that comes to its head in states of several shapes: this one, else those of another summary -/
noncomputable def gL2 {R : Type} (S : LSp) (rd : List U → Rt) (B : Bool → Option R → Option R → Option R) (g : Smy R) : Smy R := fun ts h k =>
 if ts.length = S.n then
  match decP ts S.s.pl with
  | none => g ts h k
  | some a => match decH S.s.hp h with
   | none => g ts h k
   | some b => fU (a ++ b) fun us => outsGo B S.n (lres rd us) k 0 S.outs
 else g ts h k

theorem loopTells2 {R : Type} {kk : Nat} {live : Nat → Option (List Nat)} {a : Code} {S : LSp} {rd : List U → Rt} {g : Smy R} (h1 : LoopTells P X M L kk live a (gL (R := R) S rd br)) (h2 : LoopTells P X M L kk live a g) :
  LoopTells P X M L kk live a (gL2 (R := R) S rd br g) := by
 intro ts h c k r hc hk
 have key : gL S rd br c.1 c.2 k = some r ∨ g c.1 c.2 k = some r := by
  unfold gL2 at hk
  unfold gL
  split at hk
  ·rename_i hl
   rw [if_pos hl]
   split at hk
   ·exact .inr hk
   ·split at hk
    ·exact .inr hk
    ·exact .inl hk
  ·exact .inr hk
 rcases key with hk | hk
 ·exact h1 ts h c k r hc hk
 ·exact h2 ts h c k r hc hk

theorem loopsIn_sub : ∀ {c a b : Code}, a ∈ loopsIn c → b ∈ loopsIn a → b ∈ loopsIn c := by
 intro c
 induction c with
 | seq x y hx hy =>
  intro a b ha hb
  simp only [loopsIn, List.mem_append] at ha ⊢
  rcases ha with ha | ha
  ·exact .inl (hx ha hb)
  ·exact .inr (hy ha hb)
 | cond v x y hx hy =>
  intro a b ha hb
  simp only [loopsIn, List.mem_append] at ha ⊢
  rcases ha with ha | ha
  ·exact .inl (hx ha hb)
  ·exact .inr (hy ha hb)
 | block i x hx => intro a b ha hb; exact hx ha hb
 | scope x hx => intro a b ha hb; exact hx ha hb
 | loop x hx =>
  intro a b ha hb
  simp only [loopsIn, List.mem_cons] at ha ⊢
  rcases ha with rfl | ha
  ·exact .inr hb
  ·exact .inr (hx ha hb)
 | _ => intro a b ha hb; simp [loopsIn] at ha

/-- inner loops, told ahead -/
theorem lsokIn {R : Type} {LS : FuncId → Nat → Nat → Option (Smy R)} (hLS : LoopsOK P X M L LS) (f kk i : Nat) : LSOK P X M L (LS f kk) kk (L f) (bodyOf P f i) := by
 unfold bodyOf
 cases hb : loopBody P f i with
 | none => intro a ha; simp [loopsIn] at ha
 | some a =>
  unfold loopBody at hb
  simp only [Option.bind_eq_some_iff] at hb
  obtain ⟨c, ⟨fn, hf, hc⟩, h2⟩ := hb
  intro b hbm
  exact hLS f fn c kk hf hc b (loopsIn_sub (List.mem_of_find?_eq_some h2) hbm)

/-! functions -/

def comps : PV → Option (List PV)
 | .tuple [_] => none
 | .tuple vs => some vs
 | v => some [v]

/-- what is handed back, in a form of one's choice -/
def fixR (P : Program) (plan : List Nat) (k : Nat) (r : Res2) : Option Res2 :=
 (comps r.1).bind fun ts => (fixes P plan ts r.2).bind fun c => (gc k (List.range ts.length) c.1 c.2).map fun c => (oneOf c.1, c.2)

theorem fixR_env {plan : List Nat} {k : Nat} {E0 E : Env} {v : PV} {val : Value} {r : Res2} (hK : TransK k E0 E) (hI : Inv P E) (hv : Rep P E v val) (h : fixR P plan k (v, E.h) = some r) :
  ∃ E', E'.w = E.w ∧ E'.h = r.2 ∧ TransK k E0 E' ∧ Inv P E' ∧ Rep P E' r.1 val := by
 unfold fixR at h
 simp only [Option.bind_eq_some_iff, Option.map_eq_some_iff] at h
 obtain ⟨ts, h1, c1, h2, c2, h3, rfl⟩ := h
 have fin : ∀ a : Act, a.defers = [] → RepT P E ts a → ∃ E', E'.w = E.w ∧ E'.h = c2.2 ∧ TransK k E0 E' ∧ Inv P E' ∧ RepT P E' c2.1 a := by
  intro a hd hT
  have hS : Sim P k E0 (ts, E.h) a E.w := ⟨E, rfl, rfl, hK, hI, hT, hd⟩
  obtain ⟨E', g1, g2, g3, g4, g5, _⟩ := gc_sim h3 (fixes_sim h2 hS)
  exact ⟨E', g1, g2, g3, g4, g5⟩
 have single : comps v = some [v] → ts = [v] → ∃ E', E'.w = E.w ∧ E'.h = c2.2 ∧ TransK k E0 E' ∧ Inv P E' ∧ Rep P E' (oneOf c2.1) val := by
  intro _ hts
  subst hts
  obtain ⟨E', g1, g2, g3, g4, g5⟩ := fin { tmps := #[val], defers := [] } rfl ⟨rfl, fun i hi => by
   have : i = 0 := by simpa using hi
   subst this; exact hv⟩
  refine ⟨E', g1, g2, g3, g4, ?_⟩
  have hlen := g5.len
  have hrep := g5.rep
  generalize c2.1 = l at hlen hrep
  match l, hlen with
  | [x], _ => simpa [oneOf] using hrep 0 (by simp)
 cases hv with
 | tuple cs vs hl hc =>
  have hq : comps (.tuple cs) = some ts → ts = cs ∧ cs.length ≠ 1 := by
   intro h
   match cs, h with
   | [], h => cases h; exact ⟨rfl, by simp⟩
   | [x], h => cases h
   | x :: y :: r, h => cases h; exact ⟨rfl, by simp⟩
  obtain ⟨rfl, hne⟩ := hq h1
  obtain ⟨E', g1, g2, g3, g4, g5⟩ := fin { tmps := vs, defers := [] } rfl ⟨hl, fun i hi => hc i hi⟩
  refine ⟨E', g1, g2, g3, g4, ?_⟩
  have hlen := g5.len
  have hrep := g5.rep
  dsimp only at hlen hrep
  have hone : c2.1.length ≠ 1 := by
   intro h1
   rw [hlen, ← hl] at h1
   exact hne h1
  have : oneOf c2.1 = .tuple c2.1 := by
   generalize c2.1 = l at hone
   match l, hone with
   | [], _ => rfl
   | [_], h => exact absurd rfl h
   | _ :: _ :: _, _ => rfl
  show Rep P E' (oneOf c2.1) _
  rw [this]
  exact .tuple _ _ hlen hrep
 | _ => cases h1; exact single rfl rfl

structure FSp where
 ap : List Q
 ah : List BQ
 plan : List Nat
 outs : List (List Q × List BQ)

def FSp.fin (S : FSp) (j : Nat) (us : List U) : Option Res2 := (S.outs[j]?).map fun o => (oneOf (encs us 0 o.1), encH us (ws o.1) o.2)

def outsTr (r : Rs) : Nat → List (List Q × List BQ) → Tr
 | _, [] => .fail
 | j, o :: rest => .test (ok r j) (.ret (oneOf (encs (out r j) 0 o.1)) (encH (out r j) (ws o.1) o.2)) (outsTr r (j + 1) rest)

def toTr (l : List (List Q × List BQ)) : Rt → Tr
 | .fail => .fail
 | .next _ => .fail
 | .stop j us => match l[j]? with | some o => .ret (oneOf (encs us 0 o.1)) (encH us (ws o.1) o.2) | none => .fail
 | .test b x y => .test b (toTr l x) (toTr l y)

/-- nothing, where a slice is wanted -/
def nrm1 : Q1 → PV → PV
 | .l t, .nils => .lst t []
 | _, v => v
def nrm1s : List Q1 → List PV → List PV
 | q :: qs, v :: vs => nrm1 q v :: nrm1s qs vs
 | _, vs => vs
def Q.nrm : Q → PV → PV
 | .one q, v => nrm1 q v
 | .agg qs, .agg vs => .agg (nrm1s qs vs)
 | _, v => v
def nrms : List Q → List PV → List PV
 | q :: qs, v :: vs => q.nrm v :: nrms qs vs
 | _, vs => vs

theorem nrm1_rep {E : Env} {q : Q1} {v : PV} {x : Value} (h : Rep P E v x) : Rep P E (nrm1 q v) x := by
 unfold nrm1
 split
 ·obtain rfl := h.nils_inv
  exact .lst0 _ _ _ fun _ => rfl
 ·exact h

theorem nrm1s_len : ∀ (qs : List Q1) (vs : List PV), (nrm1s qs vs).length = vs.length
 | [], vs => by cases vs <;> rfl
 | _ :: _, [] => rfl
 | q :: qs, v :: vs => by simp only [nrm1s, List.length_cons, nrm1s_len qs vs]

theorem nrm1s_rep {E : Env} : ∀ {qs : List Q1} {vs : List PV} {f : Nat → Value}, (∀ i, i < vs.length → Rep P E (vs.getD i .top) (f i)) → ∀ i, i < vs.length → Rep P E ((nrm1s qs vs).getD i .top) (f i)
 | [], vs, f, h, i, hi => by
  have : nrm1s [] vs = vs := by cases vs <;> rfl
  rw [this]; exact h i hi
 | _ :: _, [], _, _, i, hi => by cases hi
 | q :: qs, v :: vs, f, h, 0, hi => by simpa [nrm1s] using nrm1_rep (q := q) (by simpa using h 0 hi)
 | q :: qs, v :: vs, f, h, i + 1, hi => by
  have := nrm1s_rep (qs := qs) (vs := vs) (f := fun i => f (i + 1)) (fun j hj => by simpa using h (j + 1) (by simpa using hj)) i (by simpa using hi)
  simpa [nrm1s] using this

theorem Q.nrm_rep {E : Env} {q : Q} {v : PV} {x : Value} (h : Rep P E v x) : Rep P E (q.nrm v) x := by
 unfold Q.nrm
 split
 ·exact nrm1_rep h
 ·cases h with
  | agg _ us hl hh => exact .agg _ _ (by rw [nrm1s_len]; exact hl) fun i hi => nrm1s_rep (f := fun i => us.getD i undef) hh i (by rwa [nrm1s_len] at hi)
 ·exact h

theorem nrms_len : ∀ (qs : List Q) (vs : List PV), (nrms qs vs).length = vs.length
 | [], vs => by cases vs <;> rfl
 | _ :: _, [] => rfl
 | q :: qs, v :: vs => by simp only [nrms, List.length_cons, nrms_len qs vs]

theorem nrms_rep {E : Env} : ∀ {qs : List Q} {vs : List PV} {f : Nat → Value}, (∀ i, i < vs.length → Rep P E (vs.getD i .top) (f i)) → ∀ i, i < vs.length → Rep P E ((nrms qs vs).getD i .top) (f i)
 | [], vs, f, h, i, hi => by
  have : nrms [] vs = vs := by cases vs <;> rfl
  rw [this]; exact h i hi
 | _ :: _, [], _, _, i, hi => by cases hi
 | q :: qs, v :: vs, f, h, 0, hi => by simpa [nrms] using Q.nrm_rep (q := q) (by simpa using h 0 hi)
 | q :: qs, v :: vs, f, h, i + 1, hi => by
  have := nrms_rep (qs := qs) (vs := vs) (f := fun i => f (i + 1)) (fun j hj => by simpa using h (j + 1) (by simpa using hj)) i (by simpa using hi)
  simpa [nrms] using this

def gW (S : FSp) (k : List U → Tr) : List PV → List Blk → Tr := fun xs hc =>
 match decs S.ap (nrms S.ap xs) with
 | none => .fail
 | some a => match decH S.ah hc with
  | none => .fail
  | some b => fU (a ++ b) k

/-- a row: what a function comes to, in one word; its whole tree -/
def gF (S : FSp) (m : List U → Rt) : List PV → List Blk → Tr := gW S fun us => outsTr (m us).res 0 S.outs
def gI (S : FSp) (m : List U → Rt) : List PV → List Blk → Tr := gW S fun us => toTr S.outs (m us)

theorem outsTr_some {r : Rs} {x : Res2} : ∀ {l : List (List Q × List BQ)} {j : Nat}, (outsTr r j l).val = some x → ∃ i o us, l[i]? = some o ∧ r = some (j + i, us) ∧ x = (oneOf (encs us 0 o.1), encH us (ws o.1) o.2)
 | [], j, h => by cases h
 | o :: rest, j, h => by
  simp only [outsTr, Tr.val] at h
  split at h
  ·rename_i hk
   cases h
   exact ⟨0, o, out r j, rfl, ok_some hk, rfl⟩
  ·obtain ⟨i, o', us, h1, h2, h3⟩ := outsTr_some h
   exact ⟨i + 1, o', us, by simpa using h1, by rw [h2]; congr 2; omega, h3⟩

theorem toTr_some {l : List (List Q × List BQ)} {x : Res2} : ∀ {t : Rt}, (toTr l t).val = some x → ∃ i o us, l[i]? = some o ∧ t.val = some (.stop i us) ∧ x = (oneOf (encs us 0 o.1), encH us (ws o.1) o.2)
 | .fail, h => by cases h
 | .next _, h => by cases h
 | .stop j us, h => by
  simp only [toTr] at h
  split at h
  ·rename_i o ho
   cases h
   exact ⟨j, o, us, ho, rfl, rfl⟩
  ·cases h
 | .test b y z, h => by
  simp only [toTr, Tr.val] at h
  simp only [Rt.val]
  split at h
  ·rename_i hb; rw [if_pos hb]; exact toTr_some h
  ·rename_i hb; rw [if_neg hb]; exact toTr_some h

theorem res_some {t : Rt} {j : Nat} {us : List U} (h : t.res = some (j, us)) : t.val = some (.stop j us) := by
 unfold Rt.res at h
 split at h
 ·rename_i e; cases h; exact e
 ·cases h

/-- what a function does, told at some plain data -/
def RowAt (P : Program) (f : FuncId) (xs : List PV) (hc : Heap) (r : Res2) : Prop :=
 (∃ fn, P.funcs[f]? = some fn ∧ fn.body.isSome = true) ∧
  ∀ (E : Env) (vs : List Value), E.h = hc → (∀ b : Nat, b < hc.length → okBlk (hc.getD b .res) = true) → Inv P E → RepL P E xs vs →
   Calls P f vs.toArray E.w fun e w' => ∃ v E', e = .returned v ∧ E'.w = w' ∧ E'.h = r.2 ∧ TransK hc.length E E' ∧ Inv P E' ∧ Rep P E' r.1 v

theorem eok_rows {f : FuncId} {g : List PV → List Blk → Tr} (h : ∀ xs hc r, (g xs hc).val = some r → RowAt P f xs hc r) : EOK P f g := by
 refine ⟨fun f' => if f' = f then some g else none, fun f' g' xs hc r hf hg => ?_, by simp⟩
 dsimp only at hf
 split at hf
 ·rename_i e; subst e; cases hf; exact h xs hc r hg
 ·cases hf

theorem EOK.at {f : FuncId} {g : List PV → List Blk → Tr} (h : EOK P f g) {xs : List PV} {hc : Heap} {r : Res2} (hg : (g xs hc).val = some r) : RowAt P f xs hc r := by
 obtain ⟨X', h1, h2⟩ := h
 exact h1 f g xs hc r h2 hg

theorem RowAt.nrm {f : FuncId} {xs : List PV} {hc : Heap} {r : Res2} (qs : List Q) (h : RowAt P f (nrms qs xs) hc r) : RowAt P f xs hc r :=
 ⟨h.1, fun E vs hE hok hI hL => h.2 E vs hE hok hI ⟨by rw [nrms_len]; exact hL.1, fun i hi => nrms_rep (f := fun i => vs.getD i undef) hL.2 i (by rwa [nrms_len] at hi)⟩⟩

theorem rowAt_of (hm : P.follows .mixedOrders = true) (hN : Named P) (hX : XOK P X) {LS : FuncId → Nat → Nat → Option (Smy Res2)} (hLS : LoopsOK P X M L LS) {f : FuncId} {fuel : Nat} {xs : List PV} {hc : Heap} {plan : List Nat} {r : Res2}
  (he : callK br P X M L LS fuel f xs hc (fun y => fixR P plan hc.length y) = some r) : RowAt P f xs hc r := by
 obtain ⟨C, y, ⟨N, rfl⟩, e1, e2⟩ := callK_ev hLS fuel _ _ _ _ _ he
 obtain ⟨y1, y2⟩ := y
 obtain ⟨f1, f2⟩ := call_ok hm hN hX M L N f _ _ y1 y2 e1
 refine ⟨f1, fun E vs hE hok hI hL => (f2 E vs hE hok hI hL).mono ?_⟩
 rintro e w' ⟨v, E', rfl, rfl, rfl, hT, hI', hr⟩
 obtain ⟨E2, g1, g2, g3, g4, g5⟩ := fixR_env hT hI' hr e2
 exact ⟨v, E2, rfl, g1, g2, g3, g4, g5⟩

theorem encH_length (us : List U) : ∀ (l : List BQ) (n : Nat), (encH us n l).length = l.length
 | [], _ => rfl
 | q :: qs, n => by simp only [encH, List.length_cons, encH_length us qs]

/-- the equation of a function tells its row -/
theorem eokTold (hm : P.follows .mixedOrders = true) (hN : Named P) (hX : XOK P X) {LS : FuncId → Nat → Nat → Option (Smy Res2)} (hLS : LoopsOK P X M L LS) {f : FuncId} (fuel : Nat) (S : FSp) (m : List U → Rt)
  (heq : ∀ us v, (m us).val = some v → callK br P X M L LS fuel f (encs us 0 S.ap) (encH us (ws S.ap) S.ah) (fun y => fixR P S.plan S.ah.length y) = (m us).go br (fun _ => none) S.fin) (inline : Bool) :
  EOK P f (if inline then gI S m else gF S m) := by
 refine eok_rows fun xs hc r hg => RowAt.nrm S.ap ?_
 have hgW : ∃ us j o us', encs us 0 S.ap = nrms S.ap xs ∧ encH us (ws S.ap) S.ah = hc ∧ (m us).val = some (.stop j us') ∧ S.outs[j]? = some o ∧ r = (oneOf (encs us' 0 o.1), encH us' (ws o.1) o.2) := by
  have key : ∀ {k : List U → Tr}, (gW S k xs hc).val = some r → (∀ us, (k us).val = some r → ∃ j o us', (m us).val = some (.stop j us') ∧ S.outs[j]? = some o ∧ r = (oneOf (encs us' 0 o.1), encH us' (ws o.1) o.2)) →
    ∃ us j o us', encs us 0 S.ap = nrms S.ap xs ∧ encH us (ws S.ap) S.ah = hc ∧ (m us).val = some (.stop j us') ∧ S.outs[j]? = some o ∧ r = (oneOf (encs us' 0 o.1), encH us' (ws o.1) o.2) := by
   intro k hk hh
   unfold gW at hk
   split at hk
   ·cases hk
   ·rename_i ua hua
    split at hk
    ·cases hk
    ·rename_i ub hub
     rw [fU_eq] at hk
     obtain ⟨j, o, us', h1, h2, h3⟩ := hh _ hk
     obtain ⟨e1, e2⟩ := decs_enc hua [] ub
     have e3 := decH_enc hub ua []
     simp only [List.nil_append, List.append_nil, List.length_nil] at e1 e3
     rw [e2] at e3
     exact ⟨ua ++ ub, j, o, us', e1, e3, h1, h2, h3⟩
  cases inline with
  | true =>
   refine key (k := fun us => toTr S.outs (m us)) hg fun us h => ?_
   obtain ⟨i, o, us', h1, h2, h3⟩ := toTr_some h
   exact ⟨i, o, us', h2, h1, h3⟩
  | false =>
   refine key (k := fun us => outsTr (m us).res 0 S.outs) hg fun us h => ?_
   obtain ⟨i, o, us', h1, h2, h3⟩ := outsTr_some h
   rw [Nat.zero_add] at h2
   exact ⟨i, o, us', res_some h2, h1, h3⟩
 obtain ⟨us, j, o, us', hx, rfl, h1, h2, h3⟩ := hgW
 rw [← hx]
 have he := heq us _ h1
 rw [Rt.go_val, h1] at he
 have hfin : S.fin j us' = some r := by unfold FSp.fin; rw [h2, h3]; rfl
 dsimp only at he
 rw [hfin] at he
 have := encH_length us S.ah (ws S.ap)
 rw [← this] at he
 exact rowAt_of hm hN hX hLS he

theorem xok1 (hX : XOK P X) {f : FuncId} {g : List PV → List Blk → Tr} (h : EOK P f g) : XOK P (extT [(f, g)] X) := xokT hX (by simpa using h)

/-- two rows of one function -/
theorem eok2 {f : FuncId} {S : FSp} {k : List U → Tr} {g : List PV → List Blk → Tr} (h1 : EOK P f (gW S k)) (h2 : EOK P f g) : EOK P f (fun xs hc => match decs S.ap (nrms S.ap xs) with
  | none => g xs hc
  | some a => match decH S.ah hc with
   | none => g xs hc
   | some b => fU (a ++ b) k) := by
 refine h1.or h2 fun xs hc r hr => ?_
 unfold gW
 split at hr
 ·exact .inr hr
 ·split at hr
  ·exact .inr hr
  ·exact .inl hr

end
end Go.Pu
