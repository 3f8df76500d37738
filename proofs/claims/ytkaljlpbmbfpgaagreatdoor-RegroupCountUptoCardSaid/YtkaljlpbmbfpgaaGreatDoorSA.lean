/- The pure machine, twenty-seventh part: regions. -/
import Derived.Test.YtkaljlpbmbfpgaaGreatDoorRZ
set_option linter.unusedSimpArgs false
set_option linter.unusedVariables false
namespace Go.Pu

section
variable {P : Program} {C : CallF} {M : FuncId → Bool} {ops : Array Oper} {R : Type}

theorem reserve_env {E : Env} (hI : Inv P E) (n d : Nat) : ∃ E1, E1.w = { E.w with drawn := d } ∧ E1.h = E.h ++ List.replicate n .res ∧ Trans E E1 ∧ Inv P E1 := by
 let E1 : Env := { w := { E.w with drawn := d }, h := E.h ++ List.replicate n .res, ρ := E.ρ, im := E.im }
 have hlo : ∀ b : Nat, b < E.h.length → E1.h[b]? = E.h[b]? := fun b hb => List.getElem?_append_left hb
 have hhi : ∀ b : Nat, E.h.length ≤ b → E1.h[b]? = none ∨ E1.h[b]? = some .res := by
  intro b hb
  show (E.h ++ List.replicate n Blk.res)[b]? = none ∨ _
  rw [List.getElem?_append_right hb, List.getElem?_replicate]
  split
  ·exact .inr rfl
  ·exact .inl rfl
 have key : ∀ (b : Nat) (x : Blk), E1.h[b]? = some x → x ≠ .res → b < E.h.length ∧ E.h[b]? = some x := by
  intro b x hx hn
  rcases Nat.lt_or_ge b E.h.length with h | h
  ·exact ⟨h, by rw [← hlo b h]; exact hx⟩
  ·rcases hhi b h with h' | h'
   ·rw [h'] at hx; cases hx
   ·rw [h'] at hx; cases hx; exact absurd rfl hn
 have conv : ∀ i blk, OwnB E1 i blk → OwnB E i blk := by
  rintro i blk (⟨o, hρ, hh | hh⟩ | ⟨t, es, st, ob, eo, clock, h1, h2, h3, h4, h5⟩)
  ·obtain ⟨t, es, hh⟩ := hh
   exact .inl ⟨o, hρ, .inl ⟨t, es, (key i _ hh (by simp)).2⟩⟩
  ·obtain ⟨t, cs, hh⟩ := hh
   exact .inl ⟨o, hρ, .inr ⟨t, cs, (key i _ hh (by simp)).2⟩⟩
  ·exact .inr ⟨t, es, st, ob, eo, clock, (key i _ h1 (by simp)).2, h2, h3, h4, h5⟩
 have hT : Trans E E1 := by
  refine ⟨fun b => ?_, fun _ _ _ _ => rfl, fun _ h => h, Nat.le_refl _, rfl, rfl, rfl, fun _ _ _ => rfl, fun blk c T fz h => ⟨c, h, rfl⟩, fun blk _ ⟨i, h⟩ => ⟨i, conv i blk h⟩, fun _ _ h => .inl h⟩
  rcases Nat.lt_or_ge b E.h.length with h | h
  ·rw [hlo b h]; exact Compat.refl _
  ·rw [List.getElem?_eq_none h]; trivial
 refine ⟨E1, rfl, rfl, hT, ⟨fun b => ?_, fun i j blk hi hj => hI.own i j blk (conv i blk hi) (conv j blk hj), hI.imlt, hI.tabT hT⟩⟩
 rcases Nat.lt_or_ge b E.h.length with h | h
 ·exact BlkAt.keep hI hT (hlo b h) rfl (fun _ _ _ => rfl) (fun _ _ h => h) (hI.blk b)
 ·unfold BlkAt
  rcases hhi b h with h' | h' <;> rw [h'] <;> trivial

theorem Run.congr {slot slot' : Nat → Nat} {F F' : Nat → Foot} : ∀ {c : List Nat} {σ σ' : St}, (∀ i ∈ c, slot i = slot' i ∧ F i = F' i) → Run P C M ops slot F c σ σ' → Run P C M ops slot' F' c σ σ'
 | [], _, _, _, h => h
 | i :: c, σ, σ', he, h => by
  obtain ⟨o, σ1, e1, e2, e3⟩ := h
  obtain ⟨f1, f2⟩ := he i (by simp)
  exact ⟨o, σ1, e1, by rw [← f1, ← f2]; exact e2, Run.congr (fun j hj => he j (by simp [hj])) e3⟩

theorem set_same {ts : List PV} {d : Nat} {x : PV} (h : ts.getD d .top = x) (hx : x ≠ .top) : ts.set d x = ts := by
 have hlt : d < ts.length := by
  rcases Nat.lt_or_ge d ts.length with hh | hh
  ·exact hh
  ·rw [List.getD, List.getElem?_eq_none hh] at h; exact absurd h.symm hx
 apply List.ext_getElem?
 intro i
 rw [List.getElem?_set]
 split
 ·rename_i e
  subst e
  rw [List.getElem?_eq_getElem hlt]
  rw [List.getD, List.getElem?_eq_getElem hlt] at h
  exact congrArg some h.symm
 ·rfl

theorem runDraw_run {k : List PV → Heap → Option R} {r : R} : ∀ (rest : List Oper) (k0 s : Nat) (F : List Foot) (ts : List PV) (h : Heap), (∀ t : Nat, rest[t]? = ops[k0 + t]?) → F.length = k0 → runDraw P C M ops rest s F ts h k = some r →
  ∃ slot σ' F2, Run P C M ops slot (fun i => (F ++ F2).getD i ([], [])) (List.range' k0 rest.length) (ts, h) σ' ∧ dynOK ops (F ++ F2) = true ∧ k σ'.1 σ'.2 = some r
 | [], k0, s, F, ts, h, hr, hF, hk => by
  simp only [runDraw] at hk
  split at hk
  ·rename_i hd
   exact ⟨fun _ => 0, (ts, h), [], rfl, by simpa using hd, hk⟩
  ·cases hk
 | o :: rest, k0, s, F, ts, h, hr, hF, hk => by
  have h0 : ops[k0]? = some o := by simpa using (hr 0).symm
  have hr' : ∀ t : Nat, rest[t]? = ops[k0 + 1 + t]? := fun t => by have := hr (t + 1); simpa [Nat.add_assoc, Nat.add_comm 1 t] using this
  -- what follows behind this operation
  have next : ∀ (f : Foot) (ts1 : List PV) (h1 : Heap) (s' : Nat), stepF P C M ops s o (ts, h) = some ((ts1, h1), f) → runDraw P C M ops rest s' (F ++ [f]) ts1 h1 k = some r →
    ∃ slot σ' F2, Run P C M ops slot (fun i => (F ++ F2).getD i ([], [])) (List.range' k0 (o :: rest).length) (ts, h) σ' ∧ dynOK ops (F ++ F2) = true ∧ k σ'.1 σ'.2 = some r := by
   intro f ts1 h1 s' hst hk
   obtain ⟨slot, σ', F2, e1, e2, e3⟩ := runDraw_run rest (k0 + 1) s' (F ++ [f]) ts1 h1 hr' (by simp [hF]) hk
   refine ⟨fun i => if i = k0 then s else slot i, σ', f :: F2, ?_, by simpa using e2, e3⟩
   rw [List.length_cons, List.range'_succ]
   refine ⟨o, (ts1, h1), h0, ?_, ?_⟩
   ·simp only [if_true]
    rw [hst]
    have : (F ++ f :: F2).getD k0 ([], []) = f := by
     simp [List.getD, ← hF]
    rw [this]
   ·refine Run.congr (fun i hi => ?_) e1
    have : i ≠ k0 := by have := (List.mem_range'_1.1 hi).1; omega
    simp [this]
  have go : ∀ ts0 : List PV, ts0 = ts → (∀ q, doOpG P C M (slotAt o s) ts h o.op = some q → stepF P C M ops s o (ts, h) = some ((put ts o.dst q.1.1, q.1.2), q.2)) →
    ((doOpG P C M (slotAt o s) ts0 h o.op).bind fun r => runDraw P C M ops rest (s + slotsOf o.op) (F ++ [r.2]) (put ts0 o.dst r.1.1) r.1.2 k) = some r →
    ∃ slot σ' F2, Run P C M ops slot (fun i => (F ++ F2).getD i ([], [])) (List.range' k0 (o :: rest).length) (ts, h) σ' ∧ dynOK ops (F ++ F2) = true ∧ k σ'.1 σ'.2 = some r := by
   intro ts0 e hst hk2
   rw [e] at hk2
   cases hd : doOpG P C M (slotAt o s) ts h o.op with
   | none => rw [hd] at hk2; cases hk2
   | some q =>
    rw [hd] at hk2
    exact next q.2 _ _ _ (hst q hd) hk2
  unfold runDraw at hk
  dsimp only at hk
  split at hk
  ·rename_i hg
   refine go ts rfl (fun q hq => ?_) hk
   simp only [stepF, hg, hq, Option.map_some]
  ·rename_i j want hg
   split at hk
   ·cases hk
   ·rename_i d hd
    split at hk
    ·rename_i b hb
     have skip : ∀ ts0 : List PV, ts0 = ts → b ≠ want → runDraw P C M ops rest (s + slotsOf o.op) (F ++ [([], [])]) (put ts0 o.dst (.tuple [])) h k = some r →
       ∃ slot σ' F2, Run P C M ops slot (fun i => (F ++ F2).getD i ([], [])) (List.range' k0 (o :: rest).length) (ts, h) σ' ∧ dynOK ops (F ++ F2) = true ∧ k σ'.1 σ'.2 = some r := by
      intro ts0 e hne hk2
      rw [e] at hk2
      refine next ([], []) _ _ _ ?_ hk2
      simp only [stepF, hg, hd, hb, if_neg hne]
     have take : ∀ q, b = want → doOpG P C M (slotAt o s) ts h o.op = some q → stepF P C M ops s o (ts, h) = some ((put ts o.dst q.1.1, q.1.2), q.2) := by
      intro q hw hq
      simp only [stepF, hg, hd, hb, if_pos hw, hq, Option.map_some]
     split at hk
     ·rename_i hbt
      subst hbt
      have hset : ts.set d (.bool true) = ts := set_same hb (by simp)
      split at hk
      ·rename_i hw
       exact go _ hset (fun q hq => take q hw.symm hq) hk
      ·rename_i hw
       exact skip _ hset (by cases want <;> simp_all) hk
     ·rename_i hbt
      have hbf : b = false := by simpa using hbt
      subst hbf
      have hset : ts.set d (.bool false) = ts := set_same hb (by simp)
      split at hk
      ·rename_i hw
       exact skip _ hset (by cases want <;> simp_all) hk
      ·rename_i hw
       exact go _ hset (fun q hq => take q (by cases want <;> simp_all) hq) hk
    ·rename_i hb
     refine next ([], []) _ _ _ ?_ hk
     simp only [stepF, hg, hd, hb]
    ·cases hk

/-- a region that draws its order -/
theorem draw_wp (hm : P.follows .mixedOrders = true) (hN : Named P) (hC : CallsOK P C) (hs : staticOK ops = true) {kk id : Nat} {E0 E : Env} {ts : List PV} {a : Act} {k : List PV → Heap → Option R} {r : R} {Q : Exit → Act → World → Prop}
  (hk : runDraw P C M ops ops.toList E.h.length [] ts (reserve ops E.h) k = some r) (hK : TransK kk E0 E) (hI : Inv P E) (hT : RepT P E ts a) (hD : a.defers = [])
  (hQ : ∀ a w σ, Sim P kk E0 σ a w → k σ.1 σ.2 = some r → Q .normal a w) : (Code.region id ops true).wp P Q a E.w := by
 obtain ⟨slot, σ', F2, h1, h2, h3⟩ := runDraw_run ops.toList 0 E.h.length [] ts (reserve ops E.h) (fun t => by simp) rfl hk
 obtain ⟨E1, e1, e2, e3, e4⟩ := reserve_env hI ((ops.toList.map fun o => slotsOf o.op).sum) (E.w.drawn + 1)
 refine wp_region_any hm ?_
 have hS : Sim P kk E0 (ts, reserve ops E.h) a { E.w with drawn := E.w.drawn + 1 } := ⟨E1, e1, e2, hK.trans (e3.toK hK.le), e4, hT.mono hI e3, hD⟩
 refine any_wp (slot := slot) (F := [] ++ F2) (σ' := σ') hN hC hs h2 (fun a w hS => hQ a w σ' hS h3) ops.size (List.range' 0 ops.toList.length) _ _ a _ (by simp) hS h1 ?_ (by simp) (fun i => ?_) (fun i o ho hi => ?_)
 ·exact List.pairwise_lt_range'
 ·simp [Array.getD]
 ·simp [Array.getD] at hi

end
end Go.Pu
