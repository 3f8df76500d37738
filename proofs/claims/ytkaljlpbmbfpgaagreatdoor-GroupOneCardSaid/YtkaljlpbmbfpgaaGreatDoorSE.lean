/- The pure machine, thirty-first part: a law's row out of a pure equation. -/
import Derived.Test.YtkaljlpbmbfpgaaGreatDoorSD
import Derived.WalkKit
import Derived.ProofKit
import Derived.OpenShut
import Derived.ShutString
import Derived.ChangeOld
import Derived.Carry
set_option linter.unusedSimpArgs false
set_option linter.unusedVariables false
namespace Go.Pu
open Go.ChangeShapes Go.WideShapes Go.ChangeAt Go.RowKit

/-- an argument's pure data is of its type, and not too large -/
def ArgGd (P : Program) (t : TypeId) (x : PV) : Prop :=
 match P.underlying t with
 | some (.struct _) => ∃ xs, x = .agg xs ∧ Gds P (kds P t) xs
 | some (.array _ _) => ∃ xs, x = .agg xs ∧ Gds P (kds P t) xs
 | _ => Gd P (kdOf P t) x

def ArgsGd (P : Program) : List TypeId → List PV → Prop
 | [], [] => True
 | t :: ts, x :: xs => ArgGd P t x ∧ ArgsGd P ts xs
 | _, _ => False

section
variable {P : Program} {H : Type} {enc : TypeId × Value → H} {W : World}

theorem told_arg {base m : Nat} {t : TypeId} {v : Value} {d : DataW H} {ps : List MemPlace} (hok : Value.okWide P W .any base t v) (h : DataW.Trod enc P W 0 (fun _ => true) true t v d ps) (hl : lay P m t = true) (hw : ∀ x ∈ d.weights P t, x ≤ reachBytes) :
  ∃ x, ArgGd P t x ∧ Rep P (Env.start W) x v := by
 obtain ⟨fuel, hf⟩ := h
 cases m with
 | zero => simp [lay] at hl
 | succ m =>
  obtain ⟨xs, g1, g2, g3⟩ := told_trod fuel 6 m t _ d ps hf (by simpa [lay] using hl) hw
  unfold ArgGd
  simp only [lay, layS] at hl
  split at hl
  ·rename_i fs hu
   simp only [Value.okWide, hu] at hok
   obtain ⟨cs, rfl, hsz, _⟩ := hok
   simp only [Value.cells] at g2 g3
   exact ⟨.agg xs, by rw [hu]; exact ⟨xs, rfl, g1⟩, .agg xs cs (by simpa using g2) fun j hj => by simpa [List.getD] using g3 j hj⟩
  ·rename_i n e hu
   simp only [Value.okWide, hu] at hok
   obtain ⟨cs, rfl, hsz, _⟩ := hok
   simp only [Value.cells] at g2 g3
   exact ⟨.agg xs, by rw [hu]; exact ⟨xs, rfl, g1⟩, .agg xs cs (by simpa using g2) fun j hj => by simpa [List.getD] using g3 j hj⟩
  ·rename_i e hu
   obtain ⟨a, len, cap, rfl⟩ := okWide_slice hu hok
   have h1 := g1.gd 0 (by simp [kdsOf, hu])
   have h2 := g3 0 (by rw [g2]; simp [Value.cells])
   exact ⟨_, by simpa [kdsOf, hu] using h1, by simpa [Value.cells] using h2⟩
  ·rename_i hu
   have : ∃ b, v = .bool b := by
    simp only [Value.okWide, hu, Cell.okWide] at hok
    cases v <;> simp_all [Cell.ok]
   obtain ⟨b, rfl⟩ := this
   have h1 := g1.gd 0 (by simp [kdsOf, hu])
   have h2 := g3 0 (by rw [g2]; simp [Value.cells])
   exact ⟨_, by simpa [kdsOf, hu] using h1, by simpa [Value.cells] using h2⟩
  ·rename_i k hu
   obtain ⟨n, rfl⟩ := okWide_int hu hok
   have h1 := g1.gd 0 (by simp [kdsOf, hu])
   have h2 := g3 0 (by rw [g2]; simp [Value.cells])
   exact ⟨_, by simpa [kdsOf, hu] using h1, by simpa [Value.cells] using h2⟩
  ·rename_i hu
   obtain ⟨s, rfl⟩ := okWide_string hu hok
   have h1 := g1.gd 0 (by simp [kdsOf, hu])
   have h2 := g3 0 (by rw [g2]; simp [Value.cells])
   exact ⟨_, by simpa [kdsOf, hu] using h1, by simpa [Value.cells] using h2⟩
  ·cases hl

theorem told_args {base m : Nat} : ∀ {ts : List TypeId} {vs : List Value} {ds : List (DataW H)} {ps : List MemPlace}, (∀ (j : Nat) t v, ts[j]? = some t → vs[j]? = some v → Value.okWide P W .any base t v) →
  DataW.TrodAll enc P W 0 (fun _ => true) true ts vs ds ps → ts.all (lay P m) = true → (∀ x ∈ DataW.weightsEach P ts ds, x ≤ reachBytes) → ∃ xs, ArgsGd P ts xs ∧ RepL P (Env.start W) xs vs
 | [], [], [], _, _, _, _, _ => ⟨[], trivial, rfl, fun i hi => by simp at hi⟩
 | t :: ts, v :: vs, d :: ds, ps, hok, h, hl, hw => by
  obtain ⟨p, q, h1, h2, rfl⟩ := h
  simp only [List.all_cons, Bool.and_eq_true] at hl
  simp only [DataW.weightsEach, List.mem_append] at hw
  obtain ⟨x, e1, e2⟩ := told_arg (hok 0 t v rfl rfl) h1 hl.1 fun x hx => hw x (.inl hx)
  obtain ⟨xs, f1, f2, f3⟩ := told_args (fun j t' v' a b => hok (j + 1) t' v' (by simpa using a) (by simpa using b)) h2 hl.2 fun x hx => hw x (.inr hx)
  refine ⟨x :: xs, ⟨e1, f1⟩, by simp [f2], fun i hi => ?_⟩
  cases i with
  | zero => simpa using e2
  | succ i => simpa using f3 i (by simpa using hi)
 | [], _ :: _, _, _, _, h, _, _ => h.elim
 | [], [], _ :: _, _, _, h, _, _ => h.elim
 | _ :: _, [], _, _, _, h, _, _ => h.elim
 | _ :: _, _ :: _, [], _, _, h, _, _ => h.elim

theorem trodAll_below (hl : laidOutB P = true) {W' : World} (hb : Below W.heap.size W W') : ∀ {ts : List TypeId} {vs : List Value} {ds : List (DataW H)} {ps : List MemPlace}, ts.all (fun t => P.readableRec t && decide (t < P.types.size)) = true →
  DataW.TrodAll enc P W 0 (fun _ => true) true ts vs ds ps → DataW.TrodAll enc P W' 0 (fun b => decide (b < W.heap.size)) true ts vs ds ps
 | [], [], [], _, _, h => h
 | t :: ts, v :: vs, d :: ds, ps, hr, h => by
  obtain ⟨p, q, h1, h2, rfl⟩ := h
  simp only [List.all_cons, Bool.and_eq_true, decide_eq_true_eq] at hr
  have hlt : ∀ x ∈ p, x.block < W.heap.size := by obtain ⟨m, hm⟩ := h1; exact DataW.trod_lt m _ _ _ hm
  exact ⟨p, q, Below.trod hl hr.1.1 hr.1.2 h1 hb hlt, trodAll_below hl hb (by simpa using hr.2) h2, rfl⟩
 | [], _ :: _, _, _, _, h => h.elim
 | [], [], _ :: _, _, _, h => h.elim
 | _ :: _, [], _, _, _, h => h.elim
 | _ :: _, _ :: _, [], _, _, h => h.elim

theorem trodAll_len : ∀ {ts : List TypeId} {vs : List Value} {ds : List (DataW H)} {ps : List MemPlace}, DataW.TrodAll enc P W 0 (fun _ => true) true ts vs ds ps → ds.length = ts.length
 | [], [], [], _, _ => rfl
 | t :: ts, v :: vs, d :: ds, ps, h => by
  obtain ⟨p, q, h1, h2, rfl⟩ := h
  simp [trodAll_len h2]
 | [], _ :: _, _, _, h => h.elim
 | [], [], _ :: _, _, h => h.elim
 | _ :: _, [], _, _, h => h.elim
 | _ :: _, _ :: _, [], _, h => h.elim

/-- a call whose end the pure machine tells, from the world that it finds -/
theorem call_start {X : Ext} {M : FuncId → Bool} {L : FuncId → Nat → Option (List Nat)} (hm : P.follows .mixedOrders = true) (hN : Named P) (hX : XOK P X) {f : FuncId} {xs : List PV} {n : Nat} {b : Bool} {hc : Heap}
  (h : call P X M L n f xs [] = some (.bool b, hc)) {vs : List Value} (hx : RepL P (Env.start W) xs vs) (hW : Tab W fun b => b < W.heap.size) : Calls P f vs.toArray W fun e W' => e = .returned (.bool b) ∧ Below W.heap.size W W' := by
 obtain ⟨_, h2⟩ := call_ok hm hN hX M L n f xs [] _ _ h
 refine (h2 (Env.start W) vs rfl (fun b hb => by simp at hb) (start_inv P W hW) hx).mono ?_
 rintro e W' ⟨v, E', rfl, rfl, _, hT, _, hr⟩
 refine ⟨by rw [hr.bool_inv], hT.os, hT.tape, hT.output, hT.size, fun k hk => hT.frame k hk ?_⟩
 rintro ⟨b, h⟩
 exact start_own h

end

/-- what a law's call comes to -/
theorem law_contract {C : Checked} {f : FuncId} {fn : Func} {s : ChangeSpec} {H : Type} {enc : TypeId × Value → H} {rt : TypeId} {m : Nat} {X : Ext} {M : FuncId → Bool} {L : FuncId → Nat → Option (List Nat)}
  (hvars : s.vars = []) (hspec : ∀ ds : List (DataW H), ds.length = fn.params.toList.length → s.fn H ds = { results := [.lit (.bool true)], args := ds, vars := [] })
  (hres : fn.resultTypes = #[rt]) (hrt : C.prog.underlying rt = some .bool) (hlaid : laidOutB C.prog = true)
  (hpar : fn.params.toList.all (fun t => C.prog.readableRec t && decide (t < C.prog.types.size)) = true) (hlay : fn.params.toList.all (lay C.prog m) = true)
  (hm : C.prog.follows .mixedOrders = true) (hN : Named C.prog) (hX : XOK C.prog X)
  (hpure : ∀ xs : List PV, ArgsGd C.prog fn.params.toList xs → ∃ n hc, call C.prog X M L n f xs [] = some (.bool true, hc))
  {W : World} {base : Nat} {args : Array Value} {ds gs : List (DataW H)} {before : List MemPlace} (hTab : Tab W fun b => b < W.heap.size)
  (hval : ∀ (j : Nat) t v, fn.params[j]? = some t → args[j]? = some v → Value.okWide C.prog W .any base t v) (hW : DataW.Whole enc C.prog fn.params.toList s.vars false W args.toList ds gs before)
  (hsz : (DataW.weightsEach C.prog (fn.params.toList ++ s.plain.varTypes C.prog) (ds ++ gs)).all (· ≤ reachBytes) = true) :
  Calls C.prog f args W fun e W' => ∃ v, e = .returned v ∧ s.post enc C.prog fn false true false false W args v W' := by
 have hW' := hW
 obtain ⟨p, q, hA, hV, rfl, hfz, hnd⟩ := hW
 rw [hvars] at hV
 obtain ⟨rfl, rfl⟩ := trodVars_none hV
 simp only [List.append_nil] at hW' hsz
 have hw : ∀ x ∈ DataW.weightsEach C.prog fn.params.toList ds, x ≤ reachBytes := by
  intro x hx
  have hv : s.plain.varTypes C.prog = [] := by
   simp [DataSpec.varTypes, ChangeSpec.plain, hvars]
  rw [hv, List.append_nil] at hsz
  simpa using List.all_eq_true.1 hsz x hx
 obtain ⟨xs, g1, g2⟩ := told_args (fun j t v a b => hval j t v (by simpa using a) (by simpa using b)) hA hlay hw
 obtain ⟨n, hc, hp⟩ := hpure xs g1
 have := call_start hm hN hX hp g2 hTab
 simp only [Array.toArray_toList] at this
 refine this.mono fun e W' ⟨he, bel⟩ => ?_
 subst he
 have hsp := hspec ds (trodAll_len hA)
 refine ⟨_, rfl, ds, [], p, [], p, [], hW', ?_, ?_, ?_, bel.frame _, fun h => by cases h⟩
 ·simp only [List.append_nil, hsp, hres]
  exact trodAll_mk1 (shut_bool hrt _)
 ·simp only [List.append_nil, hsp]
  exact trodAll_below hlaid bel hpar hA
 ·simp only [List.append_nil, hsp, hvars]
  rfl

/-- a law's row that lists variables -/
theorem law_laid {laid : List (String × DataW Unit)} {C : Checked} {os : Os} {f : FuncId} {fn : Func} {s : ChangeSpec} {conds : List PathCond} {H : Type} {enc : TypeId × Value → H} {rt : TypeId} {m : Nat} {X : Ext} {M : FuncId → Bool} {L : FuncId → Nat → Option (List Nat)}
  (own : ownKnob C.prog.godebug = none) (started : os.Started) (noInit : C.prog.inits.idxOf? f = none) (hfn : C.prog.funcs[f]? = some fn)
  (witness : ∃ (w : World) (tape : Tape) (i : Input), w.os = os ∧ (w.forCall tape i).Shaped C.prog ∧ i.vars = [] ∧ Input.okWide C.prog (w.forCall tape i) .any w.heap.size f i ∧
   ((s.pre enc C.prog fn conds false (w.forCall tape i).memory i.args ∧ laidMetH C.prog laid (w.forCall tape i).memory) ∧ sizedMet enc C.prog fn (OpenSpec.ofChange s) false (w.forCall tape i).memory i.args) ∧ (({} : Assume)).holds C.prog (lone (Frame.enter C.prog f i.args .normal) [] (w.forCall tape i)))
  (hpl : ∀ w, laidMetH C.prog laid w = laidMet C.prog laid w) (htab : ∀ W, laidMetH C.prog laid W → W.ShapedOpen C.prog → Tab W fun b => b < W.heap.size)
  (hvars : s.vars = []) (hspec : ∀ ds : List (DataW H), ds.length = fn.params.toList.length → s.fn H ds = { results := [.lit (.bool true)], args := ds, vars := [] })
  (hres : fn.resultTypes = #[rt]) (hrt : C.prog.underlying rt = some .bool) (hlaid : laidOutB C.prog = true)
  (hpar : fn.params.toList.all (fun t => C.prog.readableRec t && decide (t < C.prog.types.size)) = true) (hlay : fn.params.toList.all (lay C.prog m) = true)
  (hm : C.prog.follows .mixedOrders = true) (hN : Named C.prog) (hX : XOK C.prog X)
  (hpure : ∀ xs : List PV, ArgsGd C.prog fn.params.toList xs → ∃ n hc, call C.prog X M L n f xs [] = some (.bool true, hc)) :
  ReturnsInHanded {} C os f .any (fun w args => (s.pre enc C.prog fn conds false w args ∧ laidMetH C.prog laid w) ∧ sizedMet enc C.prog fn (OpenSpec.ofChange s) false w args) (s.post enc C.prog fn false true false false) := by
 refine returnsInHanded_of_calls own started noInit witness ?_
 intro w tape i _ hsh _ hok hpre _
 obtain ⟨_, _, _, fn', hfn', _, _, _, _, hval⟩ := hok
 have e : fn' = fn := Option.some.inj (hfn'.symm.trans hfn)
 subst e
 obtain ⟨⟨⟨ds, gs, before, hw, hc⟩, hx⟩, hz⟩ := hpre
 have hw' := DataW.Whole.of_heap (w' := w.forCall tape i) (by rfl) hw
 refine (law_contract hvars hspec hres hrt hlaid hpar hlay hm hN hX hpure (htab _ (by rw [hpl] at hx ⊢; exact hx.of_heap (by rfl)) hsh) hval hw' (hz.weights hw)).mono fun e W' ⟨v, he, hp⟩ => ?_
 subst he
 exact ChangeSpec.post_blind hp

end Go.Pu
