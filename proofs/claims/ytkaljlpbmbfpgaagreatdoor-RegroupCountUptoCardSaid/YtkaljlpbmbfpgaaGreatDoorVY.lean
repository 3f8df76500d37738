/- Texts of this seat, one behind the other. -/
import Derived.Test.YtkaljlpbmbfpgaaGreatDoorVX
import Derived.Test.YtkaljlpbmbfpgaaGreatDoorGX
import Derived.KernelRfl
import Derived.Test.YtkaljlpbmbfpgaaGreatDoorRows
import Derived.Test.YtkaljlpbmbfpgaaGreatDoorSE
import Derived.JoinedCond
import Derived.Deep.CondSized
import Derived.LaidLaws
set_option linter.unusedSimpArgs false
set_option linter.unusedVariables false
namespace Go.Pu
open Go.ChangeShapes Go.WideShapes Go.ChangeAt Go.RowKit

mutual
/-- how long the slices that are reached at once are together -/
def wid {H : Type} : DataW H → Nat
 | .slice elems _ => elems.length
 | .agg parts => widAll parts
 | _ => 0
def widAll {H : Type} : List (DataW H) → Nat
 | [] => 0
 | d :: ds => wid d + widAll ds
end

theorem wid_mem {H : Type} {d : DataW H} : ∀ {l : List (DataW H)}, d ∈ l → wid d ≤ widAll l
 | x :: r, h => by
  simp only [widAll]
  rcases List.mem_cons.1 h with e | e
  ·subst e; omega
  ·have := wid_mem e; omega

/-- plain data that is not long -/
def shortC (B : Nat) : PV → Prop
 | .lst _ es => es.length ≤ B
 | _ => True
def shortA (B : Nat) : PV → Prop
 | .agg cs => ∀ c ∈ cs, shortC B c
 | x => shortC B x

section
variable {P : Program} {H : Type} {enc : TypeId × Value → H} {W : World}

theorem wid_fields {n fuel tot : Nat} {cs : List Value} {F : TypeId → Bool}
  (ih : ∀ (t : TypeId) (cs : List Value) (d : DataW H) (ps : List MemPlace), DataW.trod enc P W 0 (fun _ => true) true fuel t cs = some (d, ps) → F t = true → ∀ (j : Nat) (A : Option Addr) (k cap : Nat), cs[j]? = some (Value.slice A k cap) → k ≤ wid d) (hcs : cs.length = tot) :
  ∀ (fs : List Field) (off : Nat) (ys : List (DataW H × List MemPlace)), contig P n off fs tot = true → fs.all (fun f => F f.type) = true →
   (fs.mapM fun f => DataW.trod enc P W 0 (fun _ => true) true fuel f.type ((cs.drop f.offset).take (P.cellsOf f.type))) = some ys →
   ∀ (j : Nat) (A : Option Addr) (k cap : Nat), off ≤ j → cs[j]? = some (Value.slice A k cap) → k ≤ widAll (ys.map (·.1))
 | [], off, ys, hc, _, hm, j, A, k, cap, hj, h => by
  simp only [contig, beq_iff_eq] at hc
  rw [List.getElem?_eq_none (by omega)] at h
  cases h
 | f :: fs, off, ys, hc, ha, hm, j, A, k, cap, hj, h => by
  simp only [contig, Bool.and_eq_true, beq_iff_eq] at hc
  simp only [List.all_cons, Bool.and_eq_true] at ha
  rw [List.mapM_cons] at hm
  cases h1 : DataW.trod enc P W 0 (fun _ => true) true fuel f.type ((cs.drop f.offset).take (P.cellsOf f.type)) with
  | none => simp [h1] at hm
  | some y =>
   cases h2 : (fs.mapM fun f => DataW.trod enc P W 0 (fun _ => true) true fuel f.type ((cs.drop f.offset).take (P.cellsOf f.type))) with
   | none => simp [h1, h2] at hm
   | some ys' =>
    simp [h1, h2] at hm
    subst hm
    obtain ⟨y1, y2⟩ := y
    simp only [List.map_cons, widAll]
    by_cases hlt : j < off + (kdsOf P n f.type).length
    ·have := ih _ _ _ _ h1 ha.1 (j - off) A k cap (by
      rw [hc.1.1, hc.1.2, List.getElem?_take, if_pos (by omega), List.getElem?_drop, show off + (j - off) = j by omega]
      exact h)
     omega
    ·have := wid_fields ih hcs fs _ ys' hc.2 ha.2 h2 j A k cap (by omega) h
     omega

theorem trod_wid : ∀ (fuel n m : Nat) (t : TypeId) (cs : List Value) (d : DataW H) (ps : List MemPlace), DataW.trod enc P W 0 (fun _ => true) true fuel t cs = some (d, ps) → layS P (lay P m) n t = true →
  ∀ (j : Nat) (A : Option Addr) (k cap : Nat), cs[j]? = some (Value.slice A k cap) → k ≤ wid d
 | 0, _, _, _, _, _, _, h, _, _, _, _, _, _ => by simp [DataW.trod] at h
 | fuel + 1, 0, m, t, cs, d, ps, h, hl, _, _, _, _, _ => by simp [layS] at hl
 | fuel + 1, n + 1, m, t, cs, d, ps, h, hl, j, A, k, cap, hj => by
  simp only [layS] at hl
  split at hl
  ·-- a struct
   rename_i fs hu
   simp only [Bool.and_eq_true] at hl
   unfold DataW.trod at h
   simp only [hu] at h
   split at h
   ·rename_i hlen
    cases hm : (fs.toList.mapM fun f => DataW.trod enc P W 0 (fun _ => true) true fuel f.type ((cs.drop f.offset).take (P.cellsOf f.type))) with
    | none => rw [hm] at h; cases h
    | some ys =>
     rw [hm] at h
     simp only [Option.map_some, Option.some.injEq, Prod.mk.injEq] at h
     obtain ⟨rfl, rfl⟩ := h
     simp only [wid]
     exact wid_fields (F := fun t => layS P (lay P m) n t) (fun t cs d ps h1 h2 => trod_wid fuel n m t cs d ps h1 h2) hlen fs.toList 0 ys hl.1 hl.2 hm j A k cap (Nat.zero_le _) hj
   ·cases h
  ·-- an array
   rename_i len e hu
   simp only [Bool.and_eq_true, beq_iff_eq] at hl
   obtain ⟨⟨hce, hck⟩, hle⟩ := hl
   obtain ⟨xs, m', hm, hx, hlen, hxl, hel⟩ := DataW.trod_array hu h
   obtain rfl : fuel = m' := by omega
   simp only [Prod.mk.injEq] at hx
   obtain ⟨rfl, rfl⟩ := hx
   have hjl : j < cs.length := by
    rcases Nat.lt_or_ge j cs.length with h2 | h2
    ·exact h2
    ·rw [List.getElem?_eq_none h2] at hj; cases hj
   have hce0 : 0 < P.cellsOf e := by
    rcases Nat.eq_zero_or_pos (P.cellsOf e) with h2 | h2
    ·rw [hlen, hce, h2, Nat.mul_zero] at hjl; omega
    ·exact h2
   have hil : j / P.cellsOf e < len := by
    rw [Nat.div_lt_iff_lt_mul hce0, ← hce, ← hlen]; exact hjl
   have h1 := hel (j / P.cellsOf e) hil
   have hi2 : j / P.cellsOf e < xs.length := by omega
   rw [List.getElem?_eq_getElem hi2] at h1
   have hmod := Nat.mod_lt j hce0
   have := trod_wid fuel n m e _ xs[j / P.cellsOf e].1 xs[j / P.cellsOf e].2 h1 hle (j % P.cellsOf e) A k cap (by
    rw [List.getElem?_take, if_pos hmod, List.getElem?_drop, Nat.mul_comm, Nat.div_add_mod]
    exact hj)
   simp only [wid]
   exact Nat.le_trans this (wid_mem (List.mem_map.2 ⟨_, List.getElem_mem hi2, rfl⟩))
  ·-- a slice
   rename_i e hu
   unfold DataW.trod at h
   simp only [hu] at h
   split at h
   all_goals try (cases h; done)
   all_goals try (rename_i hq; cases hq; done)
   ·have : k = 0 := by
     cases j with
     | zero => simp at hj; omega
     | succ j => simp at hj
    omega
   ·rename_i e' a len cap' hq
    obtain rfl : e = e' := by cases hq; rfl
    have hk : k = len := by
     cases j with
     | zero => simp at hj; omega
     | succ j => simp at hj
    subst hk
    split at h
    ·rename_i hcond
     cases hm : (List.range k).mapM (fun i => (W.cells? 0 (a.add (i * P.cellsOf e)) (P.cellsOf e)).bind (DataW.trod enc P W 0 (fun _ => true) true fuel e)) with
     | none => rw [hm] at h; cases h
     | some elems =>
      rw [hm] at h
      simp only [Option.bind_some, if_true] at h
      cases hr : (List.range (cap' - k)).mapM (fun j => (W.cells? 0 (a.add ((k + j) * P.cellsOf e)) (P.cellsOf e)).bind (DataW.trod enc P W 0 (fun _ => true) true fuel e)) with
      | none => rw [hr] at h; cases h
      | some rest =>
       rw [hr] at h
       simp only [Option.map_some, Option.some.injEq, Prod.mk.injEq] at h
       obtain ⟨rfl, rfl⟩ := h
       obtain ⟨l1, _⟩ := mapM_some hm
       simp only [List.length_range] at l1
       simp [wid, l1]
    ·cases h
  all_goals first
   | (cases hl; done)
   | (rename_i hu
      unfold DataW.trod at h
      simp only [hu] at h
      split at h
      all_goals try (cases h; done)
      all_goals try (rename_i hq; cases hq; done)
      all_goals (cases j <;> first | (simp at hj; done) | (cases hj; done)))

theorem short_arg {m : Nat} {t : TypeId} {v : Value} {d : DataW H} {ps : List MemPlace} {x : PV} (hr : Rep P (Env.start W) x v) (h : DataW.Trod enc P W 0 (fun _ => true) true t v d ps) (hl : lay P m t = true) : shortA (wid d) x := by
 obtain ⟨fuel, hf⟩ := h
 cases m with
 | zero => simp [lay] at hl
 | succ m =>
  have key := trod_wid fuel 6 m t _ d ps hf (by simpa [lay] using hl)
  have one : ∀ {c : PV} {u : Value}, Rep P (Env.start W) c u → ∀ j : Nat, v.cells.toList[j]? = some u → shortC (wid d) c := by
   intro c u hc j hj
   cases hc with
   | lst0 t A cap hA => exact Nat.zero_le _
   | lst t es blk o cap sz c T fz hs hb him hcap hlen hk hr => exact key j _ _ _ hj
   | _ => trivial
  cases hr with
  | agg cs vs hl hh =>
   intro c hc
   obtain ⟨j, hj, rfl⟩ := List.getElem_of_mem hc
   have h1 := hh j hj
   rw [List.getD, List.getElem?_eq_getElem hj] at h1
   refine one h1 j ?_
   have hj2 : j < vs.size := by omega
   simp [Value.cells, Array.getD, hj2]
  | lst0 t A cap hA => exact Nat.zero_le _
  | lst t es blk o cap sz c T fz hs hb him hcap hlen hk hr => exact key 0 (some ⟨blk, o, none⟩) es.length cap (by simp [Value.cells])
  | _ => trivial

theorem told_args_short {base m : Nat} : ∀ {ts : List TypeId} {vs : List Value} {ds : List (DataW H)} {ps : List MemPlace}, (∀ (j : Nat) t v, ts[j]? = some t → vs[j]? = some v → Value.okWide P W .any base t v) →
  DataW.TrodAll enc P W 0 (fun _ => true) true ts vs ds ps → ts.all (lay P m) = true → (∀ x ∈ DataW.weightsEach P ts ds, x ≤ reachBytes) → ∃ xs, ArgsGd P ts xs ∧ RepL P (Env.start W) xs vs ∧ ∀ x ∈ xs, ∃ d ∈ ds, shortA (wid d) x
 | [], [], [], _, _, _, _, _ => ⟨[], trivial, ⟨rfl, fun i hi => by simp at hi⟩, fun _ h => by cases h⟩
 | t :: ts, v :: vs, d :: ds, ps, hok, h, hl, hw => by
  obtain ⟨p, q, h1, h2, rfl⟩ := h
  simp only [List.all_cons, Bool.and_eq_true] at hl
  simp only [DataW.weightsEach, List.mem_append] at hw
  obtain ⟨x, e1, e2⟩ := told_arg (hok 0 t v rfl rfl) h1 hl.1 fun x hx => hw x (.inl hx)
  obtain ⟨xs, f1, ⟨f2, f3⟩, f4⟩ := told_args_short (fun j t' v' a b => hok (j + 1) t' v' (by simpa using a) (by simpa using b)) h2 hl.2 fun x hx => hw x (.inr hx)
  refine ⟨x :: xs, ⟨e1, f1⟩, ⟨by simp [f2], fun i hi => ?_⟩, fun y hy => ?_⟩
  ·cases i with
   | zero => simpa using e2
   | succ i => simpa using f3 i (by simpa using hi)
  ·rcases List.mem_cons.1 hy with rfl | hy
   ·exact ⟨d, List.mem_cons_self .., short_arg e2 h1 hl.1⟩
   ·obtain ⟨d', hd, hs⟩ := f4 y hy
    exact ⟨d', List.mem_cons_of_mem _ hd, hs⟩
 | [], _ :: _, _, _, _, h, _, _ => h.elim
 | [], [], _ :: _, _, _, h, _, _ => h.elim
 | _ :: _, [], _, _, _, h, _, _ => h.elim
 | _ :: _, _ :: _, [], _, _, h, _, _ => h.elim

end

theorem shortC_mono {B B' : Nat} (h : B ≤ B') {x : PV} (hx : shortC B x) : shortC B' x := by
 cases x <;> first | trivial | exact Nat.le_trans hx h
theorem shortA_mono {B B' : Nat} (h : B ≤ B') {x : PV} (hx : shortA B x) : shortA B' x := by
 cases x <;> first | trivial | exact Nat.le_trans hx h | exact fun c hc => shortC_mono h (hx c hc)

end Go.Pu

set_option linter.unusedSimpArgs false
set_option linter.unusedVariables false
namespace Go.Pu
open Go.ChangeShapes Go.WideShapes Go.ChangeAt Go.RowKit

/-- an input that shows that what is asked can be met -/
theorem witness_upto {laid : List (String × DataW Unit)} {H : Type} {enc : TypeId × Value → H} {C : Checked} {os : Os} {f : FuncId} {fn : Func} {s : OpenSpec} {k : (H : Type) → List (DataW H) → Bool} (hk : s.cond = some k) (w0 : World) (args : Array Value) (fuel : Nat) (hos : w0.os = os)
  (hsh : (w0.forCall (fun _ _ => 0) ⟨#[], args, []⟩).Shaped C.prog)
  (hok : Input.okWideB C.prog (w0.forCall (fun _ _ => 0) ⟨#[], args, []⟩) f ⟨#[], args, []⟩ = true)
  (hx : (match DataW.whole enc C.prog (w0.forCall (fun _ _ => 0) ⟨#[], args, []⟩).memory fn.params.toList s.vars false args.toList fuel with | some x => k H (x.1 ++ x.2.1) | none => false) = true)
  (hsz : s.bare.sizedB enc C.prog fn false (w0.forCall (fun _ _ => 0) ⟨#[], args, []⟩).memory args fuel = true)
  (hL : laidMetH C.prog laid (w0.forCall (fun _ _ => 0) ⟨#[], args, []⟩).memory) :
  ∃ (w : World) (tape : Tape) (i : Input), w.os = os ∧ (w.forCall tape i).Shaped C.prog ∧ i.vars = [] ∧ Input.okWide C.prog (w.forCall tape i) .any w.heap.size f i ∧
   ((s.pre enc C.prog fn [] false (w.forCall tape i).memory i.args ∧ laidMetH C.prog laid (w.forCall tape i).memory) ∧ sizedMet enc C.prog fn s false (w.forCall tape i).memory i.args) ∧ (({} : Assume)).holds C.prog (lone (Frame.enter C.prog f i.args .normal) [] (w.forCall tape i)) := by
 split at hx
 ·rename_i x hw
  exact ⟨w0, fun _ _ => 0, ⟨#[], args, []⟩, hos, hsh, (Input.okWide_of_okWideB (base := 0) hok).1, (Input.okWide_of_okWideB hok).2,
   ⟨⟨(OpenSpec.pre_some hk [] false _ _).2 ⟨x.1, x.2.1, x.2.2, DataW.Whole_of_whole hw, rfl, hx⟩, hL⟩, sizedMet_of_sizedB hsz⟩, by
   simp only [Assume.holds]
   exact ⟨by simp, by simp, fun h => Modest.zero, by simp, by simp⟩⟩
 ·cases hx

/-- a law's row that lists variables, where what it reads is of no great bulk -/
theorem law_upto_laid {laid : List (String × DataW Unit)} {C : Checked} {os : Os} {f : FuncId} {fn : Func} {s : OpenSpec} {k : (H : Type) → List (DataW H) → Bool} (hk : s.cond = some k) {F : Stop.Interp} {conds : List PathCond} {H : Type} {enc : TypeId × Value → H} {rt : TypeId} {m B : Nat} {X : Ext} {M : FuncId → Bool} {L : FuncId → Nat → Option (List Nat)}
  (own : ownKnob C.prog.godebug = none) (started : os.Started) (noInit : C.prog.inits.idxOf? f = none) (hfn : C.prog.funcs[f]? = some fn)
  (witness : ∃ (w : World) (tape : Tape) (i : Input), w.os = os ∧ (w.forCall tape i).Shaped C.prog ∧ i.vars = [] ∧ Input.okWide C.prog (w.forCall tape i) .any w.heap.size f i ∧
   ((s.pre enc C.prog fn conds false (w.forCall tape i).memory i.args ∧ laidMetH C.prog laid (w.forCall tape i).memory) ∧ sizedMet enc C.prog fn s false (w.forCall tape i).memory i.args) ∧ (({} : Assume)).holds C.prog (lone (Frame.enter C.prog f i.args .normal) [] (w.forCall tape i)))
  (hpl : ∀ w, laidMetH C.prog laid w = laidMet C.prog laid w) (htab : ∀ W, laidMetH C.prog laid W → W.ShapedOpen C.prog → Tab W fun b => b < W.heap.size)
  (hvars : s.vars = []) (hspec : ∀ ds : List (DataW H), ds.length = fn.params.toList.length → (s.at F).fn H ds = { results := [.lit (.bool true)], args := ds, vars := [] })
  (hbulk : ∀ ds : List (DataW H), k H ds = true → ∀ d ∈ ds, wid d ≤ B)
  (hres : fn.resultTypes = #[rt]) (hrt : C.prog.underlying rt = some .bool) (hlaid : laidOutB C.prog = true)
  (hpar : fn.params.toList.all (fun t => C.prog.readableRec t && decide (t < C.prog.types.size)) = true) (hlay : fn.params.toList.all (lay C.prog m) = true)
  (hm : C.prog.follows .mixedOrders = true) (hN : Named C.prog) (hX : XOK C.prog X)
  (hpure : ∀ xs : List PV, ArgsGd C.prog fn.params.toList xs → (∀ x ∈ xs, shortA B x) → ∃ n hc, call C.prog X M L n f xs [] = some (.bool true, hc)) :
  ReturnsInHanded {} C os f .any (fun w args => (s.pre enc C.prog fn conds false w args ∧ laidMetH C.prog laid w) ∧ sizedMet enc C.prog fn s false w args) ((s.at F).post enc C.prog fn false true false false) := by
 refine returnsInHanded_of_calls own started noInit witness ?_
 intro w tape i _ hsh _ hok hpre _
 obtain ⟨_, _, _, fn', hfn', _, _, _, _, hval⟩ := hok
 have e : fn' = fn := Option.some.inj (hfn'.symm.trans hfn)
 subst e
 obtain ⟨⟨hp0, hx⟩, hz⟩ := hpre
 obtain ⟨ds, gs, before, hw, hc, hkk⟩ := (OpenSpec.pre_some hk conds false _ _).1 hp0
 have hsz := hz.weights hw
 have hTab := htab (w.forCall tape i) (by rw [hpl] at hx ⊢; exact hx.of_heap (by rfl)) hsh
 have hW := DataW.Whole.of_heap (w' := w.forCall tape i) (by rfl) hw
 have hW' := hW
 obtain ⟨p, q, hA, hV, rfl, hfz, hnd⟩ := hW
 rw [hvars] at hV
 obtain ⟨rfl, rfl⟩ := trodVars_none hV
 simp only [List.append_nil] at hW' hsz hkk
 have hws : ∀ x ∈ DataW.weightsEach C.prog fn'.params.toList ds, x ≤ reachBytes := by
  intro x hx
  have hv : s.bare.plain.varTypes C.prog = [] := by
   simp [DataSpec.varTypes, ChangeSpec.plain, OpenSpec.bare, hvars]
  rw [hv, List.append_nil] at hsz
  simpa using List.all_eq_true.1 hsz x hx
 obtain ⟨xs, g1, g2, g3⟩ := told_args_short (fun j t v a b => hval j t v (by simpa using a) (by simpa using b)) hA hlay hws
 obtain ⟨n, hc, hp⟩ := hpure xs g1 fun x hx => by
  obtain ⟨d, hd, hs⟩ := g3 x hx
  exact shortA_mono (hbulk ds hkk d hd) hs
 have := call_start hm hN hX hp g2 hTab
 simp only [Array.toArray_toList] at this
 refine this.mono fun e W' ⟨he, bel⟩ => ?_
 subst he
 have hsp := hspec ds (trodAll_len hA)
 refine ChangeSpec.post_blind ⟨ds, [], p, [], p, [], hW', ?_, ?_, ?_, bel.frame _, fun h => by cases h⟩
 ·simp only [List.append_nil, hsp, hres]
  exact trodAll_mk1 (shut_bool hrt _)
 ·simp only [List.append_nil, hsp]
  exact trodAll_below hlaid bel hpar hA
 ·have hv2 : (s.at F).vars = [] := hvars
  simp only [List.append_nil, hsp, hv2]
  rfl

end Go.Pu

set_option linter.unusedVariables false
set_option linter.unusedSimpArgs false
namespace Go.Proofs.YtkaljlpbmbfpgaaGreatDoor
open Go Go.Pu

end Go.Proofs.YtkaljlpbmbfpgaaGreatDoor

set_option linter.unusedVariables false
set_option linter.unusedSimpArgs false
namespace Go.Proofs.YtkaljlpbmbfpgaaGreatDoor
open Go Go.Pu

theorem smallB_len {b : List Cnt} (h : smallB b = true) : b.length ≤ 60 := by
 unfold smallB at h
 rw [Bool.and_eq_true, decide_eq_true_eq] at h
 exact h.2
end Go.Proofs.YtkaljlpbmbfpgaaGreatDoor

set_option linter.unusedVariables false
set_option linter.unusedSimpArgs false
namespace Go.Proofs.YtkaljlpbmbfpgaaGreatDoor
open Go Go.Pu

theorem Both_res (a b : List Cnt) (ha : okB a) (hb : okB b) (hc : canon a) (hl : a.length + b.length ≤ 1000000) (hn : absN a + absN b ≤ 2305843009213693952) : (m_zba [.l (a.map Cnt.e), .l (b.map Cnt.e)]).res = some (0, [.l ((sumB (a ++ b)).map Cnt.e)]) := by
 have h := loop_acc (rd := rd_zba_26_2) b.length (fun i => [.l ((sumB (a ++ b.take i)).map Cnt.e), .l (b.map Cnt.e), .i (i : Nat)]) (some (0, [.l ((sumB (a ++ b)).map Cnt.e)]))
  (lres_stop (by simp [rd_zba_26_2])) (by
  intro i h
  have hm := List.getElem_mem h
  have oX : okB (a ++ b.take i) := ⟨by rw [List.length_append, List.length_take]; omega, fun c hc => (List.mem_append.1 hc).elim (ha.2 c) fun hc => hb.2 c (List.mem_of_mem_take hc)⟩
  have aX : absN (a ++ b.take i) ≤ 2305843009213693952 := by
   have := absN_take b i
   rw [absN_app]; omega
  have lX := sumB_len (a ++ b.take i)
  rw [List.length_append, List.length_take] at lX
  have hbi : b[i].n.natAbs ≤ absN b := by
   have h1 := absN_take b (i + 1)
   rw [take_one b h, absN_app] at h1
   simp only [absN] at h1
   omega
  have hadd := Add_res5 (sumB (a ++ b.take i)) (sumB_okB oX (by omega)) (by omega) (sumB_canon _).1 b[i].row b[i].n (by omega) (fun c hc => by
   have := cnt_abs (a ++ b.take i) c.row
   rw [sumB_n hc]; omega)
  have e : addC (sumB (a ++ b.take i)) b[i].row b[i].n = sumB (a ++ b.take (i + 1)) := by
   rw [take_one b h, ← List.append_assoc, sumB_snoc]
  rw [e] at hadd
  simp only [rd_zba_26_2, rt_test, rt_next, rt_stop, el_map _ _ h, row_e, n_e, ln_map, inR_cast, Int.ofNat_lt, h, decide_true, if_true, hadd, ok_some', out_some, uL_0, beq_self_eq_true, w64_succ (i := i) (by omega)])
 simp only [List.take_zero, List.append_nil, Int.natCast_zero, sumB_self hc] at h
 simp only [m_zba, h, ok_some', out_some, res_test, res_stop, uL_0, beq_self_eq_true, if_true]

theorem absN_one (r : List Val) (n : Int) : absN (one1 r n) ≤ n.natAbs := by
 unfold one1
 split
 ·simp [absN]
 ·simp [absN]
theorem absN_addC : ∀ (b : List Cnt) (r : List Val) (n : Int), absN (addC b r n) ≤ absN b + n.natAbs
 | [], r, n => by
  have := absN_one r n
  rw [addC]; simp only [absN]; omega
 | c :: b, r, n => by
  have h1 := absN_addC b r n
  have h2 := absN_one r n
  have h3 := absN_one r (n + c.n)
  rw [addC]
  split
  ·simp only [absN]; omega
  ·split
   ·rw [absN_app]; simp only [absN]; omega
   ·rw [absN_app]; simp only [absN]; omega
theorem absN_fold : ∀ (l b : List Cnt), absN (l.foldl (fun b c => addC b c.row c.n) b) ≤ absN b + absN l
 | [], b => by simp [absN]
 | c :: l, b => by
  have h1 := absN_fold l (addC b c.row c.n)
  have h2 := absN_addC b c.row c.n
  rw [List.foldl_cons]; simp only [absN]; omega
theorem absN_sum (l : List Cnt) : absN (sumB l) ≤ absN l := by
 have := absN_fold l []
 simp only [absN, Nat.zero_add] at this
 exact this

end Go.Proofs.YtkaljlpbmbfpgaaGreatDoor

set_option linter.unusedVariables false
set_option linter.unusedSimpArgs false
namespace Go.Proofs.YtkaljlpbmbfpgaaGreatDoor
open Go Go.Pu

/-- a view, as plain data -/
structure Vw where
 n0 : List UInt8
 n1 : List UInt8
 w : List UInt8
 i : Int
 j : Int
 wh : List Nd
 pk : List Int
 g : Bool
 ag : List (List PV)

def Vw.ok (v : Vw) : Prop := (∀ d ∈ v.wh, d.ok) ∧ v.wh.length ≤ 140737488355328 ∧ v.pk.length ≤ 140737488355328

theorem ok01 : ((0 : Nat) == 1) = false := rfl
/-! what stays -/

/-! picks -/

theorem pick_loop (s0 s1 s2 : ByteArray) (i j : Int) (l8 : List (List PV)) (P : List Int) (hP : P.length ≤ 1000000) (b10 : Bool) (l11 : List (List PV)) (B : List Cnt) (h0 : B.length ≤ 1000000) :
  lres rd_zv_43_5 [.l (B.map Cnt.e), .i (B.length : Nat), .i 0, .s s0, .s s1, .s s2, .i i, .i j, .l l8, .l (P.map kE), .b b10, .l l11, .l []] = some (0, [.l ((pickL P B).map Cnt.e)]) := by
 have h := loop_acc B.length (rd := rd_zv_43_5) (fun p => [.l (B.map Cnt.e), .i (B.length : Nat), .i (p : Nat), .s s0, .s s1, .s s2, .i i, .i j, .l l8, .l (P.map kE), .b b10, .l l11, .l ((pickL P (B.take p)).map Cnt.e)]) (some (0, [.l ((pickL P B).map Cnt.e)]))
  (lres_stop (by simp [rd_zv_43_5])) (by
  intro p h
  have h1 := Pick_res B[p].row P hP
  have row0 : cL B[p].e 0 = re B[p].row := rfl
  have row1 : cI B[p].e 1 = B[p].n := rfl
  have ht : pickL P (B.take (p + 1)) = pickL P (B.take p) ++ pickC P B[p] := by
   rw [take_one B h]; unfold pickL; rw [List.flatMap_append]; simp
  have r2 : (((pickL P (B.take p)).map Cnt.e).length + 1) * 32 ≤ 140737488355328 := by
   have := pick_len P (B.take p)
   rw [List.length_map]
   rw [List.length_take] at this
   omega
  have hl : ln (re (pickR B[p].row P)) = ((pickR B[p].row P).length : Int) := ln_re _
  by_cases c1 : pickOk B[p].row P = true
  ·by_cases c2 : (pickR B[p].row P).length ≤ 40
   ·have c2' : ((pickR B[p].row P).length : Int) ≤ 40 := by omega
    have hO : (pickL P (B.take p)).map Cnt.e ++ [[PV.lst 39 (re (pickR B[p].row P)), pI B[p].n]] = (pickL P (B.take (p + 1))).map Cnt.e := by
     rw [ht, List.map_append]
     unfold pickC
     rw [if_pos ⟨c1, c2⟩]; rfl
    simp only [rd_zv_43_5, rt_test, rt_next, rt_stop, el_map _ _ h, ln_map, inR_cast, Int.ofNat_lt, h, decide_true, if_true, row0, row1, h1, ok_some', out_some, uB_0, uL_0, uL_s, c1, hl, c2', r2, hO, beq_self_eq_true, w64_succ (i := p) (by omega)]
   ·have c2' : ¬ ((pickR B[p].row P).length : Int) ≤ 40 := by omega
    have hO : (pickL P (B.take (p + 1))) = pickL P (B.take p) := by
     rw [ht]
     unfold pickC
     rw [if_neg fun h => c2 h.2, List.append_nil]
    simp only [rd_zv_43_5, rt_test, rt_next, rt_stop, el_map _ _ h, ln_map, inR_cast, Int.ofNat_lt, h, decide_true, if_true, row0, row1, h1, ok_some', out_some, uB_0, uL_0, uL_s, c1, hl, c2', decide_false, Bool.false_eq_true, if_false, hO, beq_self_eq_true, w64_succ (i := p) (by omega)]
  ·have c1' : pickOk B[p].row P = false := by simpa using c1
   have hO : (pickL P (B.take (p + 1))) = pickL P (B.take p) := by
    rw [ht]
    unfold pickC
    rw [if_neg fun h => c1 h.1, List.append_nil]
   simp only [rd_zv_43_5, rt_test, rt_next, rt_stop, el_map _ _ h, ln_map, inR_cast, Int.ofNat_lt, h, decide_true, if_true, row0, row1, h1, ok_some', out_some, uB_0, uL_0, uL_s, c1', Bool.false_eq_true, if_false, hO, beq_self_eq_true, w64_succ (i := p) (by omega)])
 simp only [List.take_zero, Int.natCast_zero] at h
 exact h

theorem pick_okB {P : List Int} {B : List Cnt} (h : okB B) (h0 : B.length ≤ 1000000) (hP : P.length ≤ 1000000) : okB (pickL P B) := by
 refine ⟨Nat.le_trans (pick_len P B) h.1, fun c hc => ?_⟩
 obtain ⟨b, hb, hc⟩ := List.mem_flatMap.1 hc
 unfold pickC at hc
 split at hc
 ·rename_i hk
  rw [List.mem_singleton] at hc
  subst hc
  refine ⟨⟨by show (pickR b.row P).length ≤ _; omega, fun v hv => ?_⟩, (h.2 b hb).2⟩
  obtain ⟨k, hkm, rfl⟩ := List.mem_map.1 hv
  have hk2 := hk.1
  unfold pickOk at hk2
  have := of_decide_eq_true (List.all_eq_true.1 hk2 k hkm)
  have hlt : k.toNat < b.row.length := by omega
  have e : b.row.getD k.toNat nul = b.row[k.toNat] := by rw [List.getD, List.getElem?_eq_getElem hlt]; rfl
  rw [e]
  exact (h.2 b hb).1.2 _ (List.getElem_mem hlt)
 ·cases hc

theorem PickB_res (n0 n1 w : List UInt8) (i j : Int) (l5 : List (List PV)) (P : List Int) (hP : P.length ≤ 1000000) (b7 : Bool) (l8 : List (List PV)) (B : List Cnt) (hB : okB B) (h0 : B.length ≤ 1000000) :
  (m_zv [.s (bs n0), .s (bs n1), .s (bs w), .i i, .i j, .l l5, .l (P.map kE), .b b7, .l l8, .l (B.map Cnt.e)]).res = some (0, [.l ((pickV P B).map Cnt.e)]) := by
 have h1 := bag_May_res B hB
 by_cases mB : mayB B = true
 ·have h2 := pick_loop (bs n0) (bs n1) (bs w) i j l5 P hP b7 l8 B h0
  have p1 := pick_okB hB h0 hP
  have p2 : absN (pickL P B) ≤ 4611686018427387904 := Nat.le_trans (pick_absN P B) (may_abs mB h0)
  have h3 := Sum_res _ p1 p2
  have h4 := bag_May_res _ (sumB_okB p1 p2)
  by_cases hs : mayB (sumB (pickL P B)) = true
  ·simp only [m_zv, h1, mB, ok_some', out_some, res_test, res_stop, uB_0, Bool.not_true, Bool.false_eq_true, if_false, beq_self_eq_true, if_true, ln_map, h2, uL_0, h3, h4, hs, pickV, and_self]
  ·have hs' : mayB (sumB (pickL P B)) = false := by simpa using hs
   simp only [m_zv, h1, mB, ok_some', out_some, res_test, res_stop, uB_0, Bool.not_true, Bool.not_false, Bool.false_eq_true, if_false, beq_self_eq_true, if_true, ln_map, h2, uL_0, h3, h4, hs', pickV, and_false, List.map_nil]
 ·have mB' : mayB B = false := by simpa using mB
  simp only [m_zv, h1, mB', ok_some', out_some, res_test, res_stop, uB_0, Bool.not_false, Bool.false_eq_true, if_false, beq_self_eq_true, if_true, pickV, false_and, List.map_nil]

theorem pickV_okB {P : List Int} {B : List Cnt} (h : okB B) (h0 : B.length ≤ 1000000) (hP : P.length ≤ 1000000) : okB (pickV P B) ∧ (pickV P B).length ≤ B.length := by
 unfold pickV
 split
 ·rename_i hm
  have p1 := pick_okB h h0 hP
  have p2 : absN (pickL P B) ≤ 4611686018427387904 := Nat.le_trans (pick_absN P B) (may_abs hm.1 h0)
  exact ⟨sumB_okB p1 p2, Nat.le_trans (sumB_len _) (pick_len P B)⟩
 ·exact ⟨⟨by simp, fun c hc => by cases hc⟩, by simp⟩

end Go.Proofs.YtkaljlpbmbfpgaaGreatDoor

set_option linter.unusedVariables false
set_option linter.unusedSimpArgs false
namespace Go.Proofs.YtkaljlpbmbfpgaaGreatDoor
open Go Go.Pu

def low3 (b : List Cnt) : Bool := b.all fun c => decide (-1000 ≤ c.n) && decide (c.n ≤ 1000)
def lowS (b : List Cnt) : Bool := low3 b && smallB b

theorem Low_res (b : List Cnt) (hb : okB b) : (m_zbm [.l (b.map Cnt.e)]).res = some (0, [.b (lowS b)]) := by
 have hlen := hb.1
 have h := loop_all' b (rd := rd_zbm_25_2) (fun i => [.l (b.map Cnt.e), .i (i : Nat)]) (fun c => decide (-1000 ≤ c.n) && decide (c.n ≤ 1000)) 0 1 [.b false] [.l (b.map Cnt.e)]
  (by simp [rd_zbm_25_2]) (by
  intro i h
  have row1 : cI b[i].e 1 = b[i].n := rfl
  simp only [rd_zbm_25_2, rt_test, rt_next, rt_stop, el_map _ _ h, ln_map, inR_cast, Int.ofNat_lt, h, decide_true, if_true, row1, w64_succ (i := i) (by omega)]
  by_cases c1 : b[i].n > 1000
  ·have : ¬ b[i].n ≤ 1000 := by omega
   simp only [c1, this, decide_true, decide_false, Bool.and_false, Bool.false_eq_true, if_false, if_true]
  ·by_cases c2 : b[i].n < -1000
   ·have : ¬ -1000 ≤ b[i].n := by omega
    simp only [c1, c2, this, decide_true, decide_false, Bool.false_and, Bool.false_eq_true, if_false, if_true]
   ·have c3 : b[i].n ≤ 1000 := by omega
    have c4 : -1000 ≤ b[i].n := by omega
    simp only [c1, c2, c3, c4, decide_true, decide_false, Bool.and_self, Bool.false_eq_true, if_false, if_true])
 simp only [Int.natCast_zero] at h
 have h2 := R05_Small_res b hb
 unfold lowS low3
 by_cases e : (b.all fun c => decide (-1000 ≤ c.n) && decide (c.n ≤ 1000)) = true
 ·rw [if_pos e] at h
  simp only [m_zbm, h, ok_some', out_some, res_test, res_stop, ok01, Bool.false_eq_true, if_false, beq_self_eq_true, if_true, uL_0, h2, uB_0, e, Bool.true_and]
 ·have e' : (b.all fun c => decide (-1000 ≤ c.n) && decide (c.n ≤ 1000)) = false := by simpa using e
  rw [if_neg e] at h
  simp only [m_zbm, h, ok_some', out_some, res_test, res_stop, beq_self_eq_true, if_true, uB_0, e', Bool.false_and]

theorem lowS_of {b : List Cnt} (h : lowS b = true) : b.length ≤ 60 ∧ absN b ≤ 60000 ∧ ∀ c ∈ b, -1000 ≤ c.n ∧ c.n ≤ 1000 := by
 unfold lowS at h
 rw [Bool.and_eq_true] at h
 have h1 := smallB_len h.2
 have h2 : ∀ c ∈ b, -1000 ≤ c.n ∧ c.n ≤ 1000 := fun c hc => by
  have := List.all_eq_true.1 h.1 c hc
  simpa using this
 have h3 := absN_le (b := b) (m := 1000) fun c hc => by have := h2 c hc; omega
 have h4 : b.length * 1000 ≤ 60 * 1000 := Nat.mul_le_mul_right _ h1
 exact ⟨h1, by omega, h2⟩

/-! changes of products -/

end Go.Proofs.YtkaljlpbmbfpgaaGreatDoor

set_option linter.unusedVariables false
set_option linter.unusedSimpArgs false
namespace Go.Proofs.YtkaljlpbmbfpgaaGreatDoor
open Go Go.Pu

section
variable (n0 n1 w : List UInt8) (i j : Int) (E : List Nd) (hE : ∀ d ∈ E, d.ok) (l6 : List (List PV)) (b7 : Bool) (l8 : List (List PV))

/-! what stays -/

end
end Go.Proofs.YtkaljlpbmbfpgaaGreatDoor

set_option linter.unusedVariables false
set_option linter.unusedSimpArgs false
namespace Go.Proofs.YtkaljlpbmbfpgaaGreatDoor
open Go Go.Pu

end Go.Proofs.YtkaljlpbmbfpgaaGreatDoor

set_option linter.unusedVariables false
set_option linter.unusedSimpArgs false
namespace Go.Proofs.YtkaljlpbmbfpgaaGreatDoor
open Go Go.Pu

theorem nil_okB : okB [] := ⟨by simp, fun c hc => by cases hc⟩

theorem may_abs9 {b : List Cnt} (h : mayB b = true) (hl : b.length ≤ 400000) : absN b ≤ 400000000000000 := by
 have h1 := absN_le (b := b) (m := 1000000000) fun c hc => mayB_n h hc
 have h2 : b.length * 1000000000 ≤ 400000 * 1000000000 := Nat.mul_le_mul_right _ hl
 omega

theorem low_both {A B : List Cnt} (oA : lowS A = true) (oB : lowS B = true) (mA : mayB A = true) (mB : mayB B = true) : mayB (sumB (A ++ B)) = true := both_may mA mB (by
 have h1 := (lowS_of oA).2.1
 have h2 := (lowS_of oB).2.1
 omega)

/-! what the laws say, as plain data -/

section
variable {w : List UInt8} {i j : Int} {f : List Val → Bool × Int} {A dA B dB C : List Cnt}

end

section
variable (n0 n1 w : List UInt8) (i j : Int) (E : List Nd) (hE : ∀ d ∈ E, d.ok) (P : List Int) (b7 : Bool) (l8 : List (List PV)) (A dA B dB : List Cnt) (hA : okB A) (hdA : okB dA) (hB : okB B) (hdB : okB dB)
include hE hA hdA hB hdB

end
end Go.Proofs.YtkaljlpbmbfpgaaGreatDoor

set_option linter.unusedVariables false
set_option linter.unusedSimpArgs false
namespace Go.Proofs.YtkaljlpbmbfpgaaGreatDoor
open Go Go.Pu

/-! what they are handed -/

end Go.Proofs.YtkaljlpbmbfpgaaGreatDoor

set_option linter.unusedVariables false
set_option linter.unusedSimpArgs false
namespace Go.Proofs.YtkaljlpbmbfpgaaGreatDoor
open Go Go.Pu

end Go.Proofs.YtkaljlpbmbfpgaaGreatDoor

set_option linter.unusedVariables false
set_option linter.unusedSimpArgs false
namespace Go.Proofs.YtkaljlpbmbfpgaaGreatDoor
open Go Go.Pu

/-! parts -/

theorem evalV_run {e : List Nd} {row : List Val} (hl : ¬ e.length > 100) (h30 : (evalV e row).2 ≠ 30) : (∃ x, runV row e [] = .ok [x] ∧ evalV e row = (x, 0)) ∨ (∃ f, runV row e [] = .error f ∧ evalV e row = (nul, f) ∧ f ≠ 30) := by
 unfold evalV at *
 rw [if_neg hl] at h30 ⊢
 match hr : runV row e [], h30 with
 | .error f, h30 => exact .inr ⟨f, rfl, rfl, h30⟩
 | .ok [x], _ => exact .inl ⟨x, rfl, rfl⟩
 | .ok [], h30 => exact absurd rfl h30
 | .ok (x :: y :: s), h30 => exact absurd rfl h30

theorem stepV_err {row s : List Val} {d : Nd} {f : Int} (h : stepV row s d = .error f) : f = 30 ∨ f = 31 := by
 have ha : ∀ op a b (s : List Val), appV op a b s = .error f → f = 30 ∨ f = 31 := by
  intro op a b s h
  unfold appV at h
  (repeat' split at h) <;> first | (injection h with h; omega) | cases h
 unfold stepV at h
 (repeat' split at h) <;> first | (injection h with h; omega) | exact ha _ _ _ _ h | cases h
theorem runV_err {row : List Val} : ∀ {e : List Nd} {s : List Val} {f : Int}, runV row e s = .error f → f = 30 ∨ f = 31
 | [], s, f, h => by cases h
 | d :: e, s, f, h => by
  unfold runV at h
  cases hs : stepV row s d with
  | error g => rw [hs] at h; injection h with h; subst h; exact stepV_err hs
  | ok s1 => rw [hs] at h; exact runV_err h

/-- two expressions and a step that takes two -/
theorem parts (a b : List Nd) (op : Int) (row : List Val) (la : a.length ≤ 40) (lb : b.length ≤ 40) (hop : tk op = 2) (ha : (evalV a row).2 ≠ 30) (hb : (evalV b row).2 ≠ 30) :
  ((evalV a row).2 ≠ 0 → (evalV (a ++ b ++ [⟨op, 0, nul⟩]) row).2 = (evalV a row).2) ∧
  ((evalV a row).2 = 0 → (evalV b row).2 ≠ 0 → (evalV (a ++ b ++ [⟨op, 0, nul⟩]) row).2 = (evalV b row).2) ∧
  ((evalV a row).2 = 0 → (evalV b row).2 = 0 → evalV (a ++ b ++ [⟨op, 0, nul⟩]) row = evalV [⟨0, 0, nul⟩, ⟨0, 1, nul⟩, ⟨op, 0, nul⟩] [(evalV a row).1, (evalV b row).1]) := by
 have hlen : ¬ (a ++ b ++ [(⟨op, 0, nul⟩ : Nd)]).length > 100 := by simp; omega
 have g0 : ¬ op = 0 := by rintro rfl; exact absurd hop (by decide)
 have g1 : ¬ op = 1 := by rintro rfl; exact absurd hop (by decide)
 have hev : evalV (a ++ b ++ [⟨op, 0, nul⟩]) row = lastV (runV row (a ++ b ++ [⟨op, 0, nul⟩]) []) := by unfold evalV; rw [if_neg hlen]
 rw [hev, List.append_assoc, runV_app]
 rcases evalV_run (by omega) ha with ⟨x, hx, ex⟩ | ⟨f, hx, ex, nf⟩
 ·rw [hx, ex]
  simp only
  rw [runV_app]
  refine ⟨fun h => absurd rfl h, fun _ hb0 => ?_, fun _ hb0 => ?_⟩
  ·rcases evalV_run (by omega) hb with ⟨y, hy, ey⟩ | ⟨f, hy, ey, nf⟩
   ·rw [ey] at hb0; exact absurd rfl hb0
   ·have h31 : f = 31 := by rcases runV_err hy with h | h; exact absurd h nf; exact h
    subst h31
    have := (runV_under row [x] b []).2 hy
    rw [List.nil_append] at this
    rw [this, ey]; rfl
  ·rcases evalV_run (by omega) hb with ⟨y, hy, ey⟩ | ⟨f, hy, ey, nf⟩
   ·have := (runV_under row [x] b []).1 _ hy
    rw [List.nil_append] at this
    rw [this, ey]
    have s1 : ∀ r, stepV r [y, x] ⟨op, 0, nul⟩ = appV op x y [] := fun r => by unfold stepV; rw [if_neg g0, if_neg g1, if_neg (by show ¬ tk op = 1; omega), if_pos hop]
    have r3 : runV [x, y] [⟨0, 0, nul⟩, ⟨0, 1, nul⟩, ⟨op, 0, nul⟩] [] = runV [x, y] [⟨op, 0, nul⟩] [y, x] := rfl
    show lastV (runV row [⟨op, 0, nul⟩] [y, x]) = _
    unfold evalV
    rw [if_neg (by simp), r3, runV, runV, s1, s1]
    rfl
   ·rw [ey] at hb0
    rcases runV_err hy with h | h
    ·exact absurd h nf
    ·have : f = 0 := hb0
     omega
 ·rw [hx, ex]
  refine ⟨fun _ => rfl, fun h => ?_, fun h => ?_⟩
  ·have : f = 0 := h
   rcases runV_err hx with h | h <;> omega
  ·have : f = 0 := h
   rcases runV_err hx with h | h <;> omega

end Go.Proofs.YtkaljlpbmbfpgaaGreatDoor

set_option linter.unusedVariables false
set_option linter.unusedSimpArgs false
namespace Go.Proofs.YtkaljlpbmbfpgaaGreatDoor
open Go Go.Pu

section
variable (n0 n1 w : List UInt8) (i j : Int) (l5 l6 : List (List PV)) (b7 : Bool) (l8 : List (List PV))

/-! what stays -/

/-! picks -/

end

/-! the law -/

section
variable (n0 n1 w : List UInt8) (i j : Int) (E : List Nd) (hE : ∀ d ∈ E, d.ok) (P : List Int) (b7 : Bool) (l8 : List (List PV))
include hE

end
end Go.Proofs.YtkaljlpbmbfpgaaGreatDoor

set_option linter.unusedVariables false
set_option linter.unusedSimpArgs false
namespace Go.Proofs.YtkaljlpbmbfpgaaGreatDoor
open Go Go.Pu

def satN (x : Int) : Int := if 100001 < x then 100001 else x

theorem sumN_nn {l : List Cnt} (h : ∀ c ∈ l, 0 ≤ c.n) : 0 ≤ sumN l := by
 have := abs_pos h
 omega

theorem all_take {B : List Cnt} {i : Nat} (hi : i ≤ B.length) {p : Cnt → Prop} (h : ∀ j (hj : j < B.length), j < i → p B[j]) : ∀ c ∈ B.take i, p c := by
 intro c hc
 obtain ⟨j, hj, rfl⟩ := List.getElem_of_mem hc
 rw [List.length_take] at hj
 rw [List.getElem_take]
 exact h j (by omega) (by omega)

def nnAt (B : List Cnt) (i : Nat) : Bool := decide (0 ≤ (B.getD i ⟨[], 0⟩).n)
theorem nnAt_at {B : List Cnt} {i : Nat} (h : i < B.length) : nnAt B i = decide (0 ≤ B[i].n) := by
 unfold nnAt; rw [getD_in h]

theorem nn_take {B : List Cnt} {i : Nat} (hi : i ≤ B.length) (h : ∀ j, j < i → nnAt B j = true) : ∀ c ∈ B.take i, 0 ≤ c.n :=
 all_take hi fun j hj hji => by
  have := h j hji
  rw [nnAt_at hj] at this
  exact of_decide_eq_true this

theorem nn_all {B : List Cnt} : (∀ i, i < B.length → nnAt B i = true) → negFree B = true := fun h =>
 negFree_iff.2 fun c hc => by
  obtain ⟨j, hj, rfl⟩ := List.getElem_of_mem hc
  have := h j hj
  rw [nnAt_at hj] at this
  exact of_decide_eq_true this

theorem nn_not {B : List Cnt} {i : Nat} (h : i < B.length) (hn : nnAt B i = false) : negFree B = false := by
 rw [nnAt_at h] at hn
 have hn := of_decide_eq_false hn
 cases e : negFree B with
 | false => rfl
 | true => exact absurd (negFree_iff.1 e _ (List.getElem_mem h)) hn

theorem right_loop (B : List Cnt) (h0 : B.length ≤ 1000000) (hm : ∀ c ∈ B, c.n.natAbs ≤ 1000000000) :
  lres rd_zr_42_5 [.i 0, .b false, .l (B.map Cnt.e), .i (B.length : Nat), .i 0] = if negFree B = true then some (1, [.b (decide (100000 < sumN B))]) else some (0, [.i 1]) := by
 have h := loop_ix B.length (rd := rd_zr_42_5) (fun i => [.i (satN (sumN (B.take i))), .b (decide (100000 < sumN (B.take i))), .l (B.map Cnt.e), .i (B.length : Nat), .i (i : Nat)]) (nnAt B) 0 1 (fun _ => [.i 1]) [.b (decide (100000 < sumN B))] (by simp [rd_zr_42_5]) (by
  intro i h hpre
  have hn := nn_take (Nat.le_of_lt h) hpre
  have hS := sumN_nn hn
  have hB := hm B[i] (List.getElem_mem h)
  have ht := sumN_take' B h
  have row1 : cI B[i].e 1 = B[i].n := rfl
  have hbound : sumN (B.take i) ≤ 1000000000000000 := by
   have h1 := sumN_abs' (B.take i)
   have h2 := absN_take B i
   have h3 := absN_le hm
   have h4 : B.length * 1000000000 ≤ 1000000 * 1000000000 := Nat.mul_le_mul_right _ h0
   omega
  rw [nnAt_at h, ht]
  generalize sumN (B.take i) = S at *
  generalize B[i].n = n at *
  by_cases c0 : n < 0
  ·have c0' : ¬ 0 ≤ n := by omega
   simp only [rd_zr_42_5, rt_test, rt_next, rt_stop, el_map _ _ h, ln_map, inR_cast, Int.ofNat_lt, h, decide_true, if_true, row1, c0, c0', decide_false, Bool.false_eq_true, if_false]
  ·have c0' : 0 ≤ n := by omega
   have k1 : w64 (satN S + if (100001 : Int) < n then 100001 else n) = satN S + if (100001 : Int) < n then 100001 else n := by
    unfold satN
    refine w64_eq ?_ ?_
    ·split <;> split <;> omega
    ·split <;> split <;> omega
   have k2 : (if (100001 : Int) < satN S + (if (100001 : Int) < n then 100001 else n) then 100001 else satN S + (if (100001 : Int) < n then 100001 else n)) = satN (S + n) := by
    unfold satN
    (repeat' split) <;> omega
   have k3 : decide (satN S + (if (100001 : Int) < n then 100001 else n) > 100000) = decide (100000 < S + n) := by
    rw [decide_eq_decide]
    unfold satN
    (repeat' split) <;> omega
   by_cases c1 : 100000 < S
   ·have c2 : 100000 < S + n := by omega
    simp only [rd_zr_42_5, rt_test, rt_next, rt_stop, el_map _ _ h, ln_map, inR_cast, Int.ofNat_lt, h, decide_true, if_true, row1, c0, c0', decide_false, Bool.false_eq_true, if_false, k1, k2, k3, c1, c2, w64_succ (i := i) (by omega)]
   ·simp only [rd_zr_42_5, rt_test, rt_next, rt_stop, el_map _ _ h, ln_map, inR_cast, Int.ofNat_lt, h, decide_true, if_true, row1, c0, c0', decide_false, Bool.false_eq_true, if_false, k1, k2, k3, c1, w64_succ (i := i) (by omega)])
 have e0 : satN (sumN (B.take 0)) = 0 := rfl
 have e1 : decide (100000 < sumN (B.take 0)) = false := rfl
 simp only [e0, e1, Int.natCast_zero] at h
 rcases h with ⟨k1, k2⟩ | ⟨i, k1, k2, _, k3⟩
 ·rw [nn_all k1, if_pos rfl]; exact k2
 ·rw [nn_not k1 k2, if_neg (by simp)]; exact k3

theorem gright_res (B : List Cnt) (hB : okB B) (h0 : B.length ≤ 1000000) : (m_zr [.l (B.map Cnt.e)]).res = some (0, [.i (rightB B)]) := by
 have h1 := bag_May_res B hB
 by_cases mB : mayB B = true
 ·have h2 := right_loop B h0 fun c hc => mayB_n mB hc
  by_cases mN : negFree B = true
  ·rw [mN, if_pos rfl] at h2
   by_cases c : sumN B ≤ 100000
   ·have c' : ¬ 100000 < sumN B := by omega
    simp [m_zr, h1, mB, h2, mN, c, c', rightB]
   ·have c' : 100000 < sumN B := by omega
    simp [m_zr, h1, mB, h2, mN, c, c', rightB]
  ·rw [if_neg mN] at h2
   simp [m_zr, h1, mB, h2, mN, rightB]
 ·simp [m_zr, h1, mB, rightB]

theorem rright_loop (B : List Cnt) (h0 : B.length ≤ 1000000) : lres rd_zbd_20_4 [.l (B.map Cnt.e), .i 0] = if negFree B = true then some (1, [.l (B.map Cnt.e)]) else some (0, [.i 1]) := by
 have h := loop_all' B (rd := rd_zbd_20_4) (fun i => [.l (B.map Cnt.e), .i (i : Nat)]) (fun c => decide (0 ≤ c.n)) 0 1 [.i 1] [.l (B.map Cnt.e)] (by simp [rd_zbd_20_4]) (by
  intro i h
  have row1 : cI B[i].e 1 = B[i].n := rfl
  by_cases c0 : B[i].n < 0
  ·have c0' : ¬ 0 ≤ B[i].n := by omega
   simp [rd_zbd_20_4, el_map _ _ h, h, row1, c0, c0']
  ·have c0' : 0 ≤ B[i].n := by omega
   simp [rd_zbd_20_4, el_map _ _ h, h, row1, c0, c0', w64_succ (i := i) (by omega)])
 exact h

theorem rright_sum (B : List Cnt) (h0 : B.length ≤ 1000000) (hm : ∀ c ∈ B, 0 ≤ c.n ∧ c.n ≤ 1000000000) :
  lres rd_zbd_20_10 [.l (B.map Cnt.e), .i 0, .i 0] = if sumN B ≤ 100000 then some (1, []) else some (0, [.i 100]) := by
 have h := loop_ix B.length (rd := rd_zbd_20_10) (fun i => [.l (B.map Cnt.e), .i (sumN (B.take i)), .i (i : Nat)]) (fun i => decide (sumN (B.take (i + 1)) ≤ 100000)) 0 1 (fun _ => [.i 100]) [] (by simp [rd_zbd_20_10]) (by
  intro i h hpre
  have hS := sumN_nn (l := B.take i) fun c hc => (hm c (List.mem_of_mem_take hc)).1
  have hB := hm B[i] (List.getElem_mem h)
  have row1 : cI B[i].e 1 = B[i].n := rfl
  have hb : sumN (B.take i) ≤ 100000 := by
   cases i with
   | zero => simp [sumN]
   | succ j => exact of_decide_eq_true (hpre j (by omega))
  have hw : w64 (sumN (B.take i) + B[i].n) = sumN (B.take (i + 1)) := by rw [sumN_take' B h]; exact w64_eq (by omega) (by omega)
  by_cases c : sumN (B.take (i + 1)) ≤ 100000
  ·have c' : ¬ sumN (B.take (i + 1)) > 100000 := by omega
   simp only [rd_zbd_20_10, rt_test, rt_next, rt_stop, el_map _ _ h, ln_map, inR_cast, Int.ofNat_lt, h, decide_true, if_true, row1, hw, c, c', decide_false, Bool.false_eq_true, if_false, w64_succ (i := i) (by omega)]
  ·have c' : sumN (B.take (i + 1)) > 100000 := by omega
   simp only [rd_zbd_20_10, rt_test, rt_next, rt_stop, el_map _ _ h, ln_map, inR_cast, Int.ofNat_lt, h, decide_true, if_true, row1, hw, c, c', decide_false, Bool.false_eq_true, if_false])
 have e0 : sumN (B.take 0) = 0 := rfl
 simp only [e0, Int.natCast_zero] at h
 have mono : ∀ j, j ≤ B.length → sumN (B.take j) ≤ sumN B := fun j hj => by
  have h1 : sumN B = sumN (B.take j) + sumN (B.drop j) := by
   rw [← sumN_app', List.take_append_drop]
  have h2 : 0 ≤ sumN (B.drop j) := sumN_nn fun c hc => (hm c (List.mem_of_mem_drop hc)).1
  omega
 rcases h with ⟨k1, k2⟩ | ⟨i, k1, k2, _, k3⟩
 ·have : sumN B ≤ 100000 := by
   cases hl : B.length with
   | zero =>
    have : B = [] := List.length_eq_zero_iff.1 hl
    rw [this]; decide
   | succ m =>
    have := of_decide_eq_true (k1 m (by omega))
    rwa [← hl, List.take_length] at this
  rw [if_pos this]; exact k2
 ·have h1 := of_decide_eq_false k2
  have h2 := mono (i + 1) k1
  rw [if_neg (by omega)]; exact k3

theorem RRight_res (B : List Cnt) (hB : okB B) (h0 : B.length ≤ 1000000) : (m_zbd [.l (B.map Cnt.e)]).res = some (0, [.i (rightB B)]) := by
 have h1 := R05_May_res B hB
 by_cases mB : mayB B = true
 ·have h2 := rright_loop B h0
  by_cases mN : negFree B = true
  ·rw [if_pos mN] at h2
   have h3 := rright_sum B h0 fun c hc => ⟨negFree_iff.1 mN c hc, by have := mayB_n mB hc; omega⟩
   by_cases c : sumN B ≤ 100000
   ·rw [if_pos c] at h3
    simp [m_zbd, h1, mB, h2, h3, mN, c, rightB]
   ·rw [if_neg c] at h3
    simp [m_zbd, h1, mB, h2, h3, mN, c, rightB]
  ·rw [if_neg mN] at h2
   simp [m_zbd, h1, mB, h2, mN, rightB]
 ·simp [m_zbd, h1, mB, rightB]

/-! aggregates -/

def vu (p : Val × Int) : List U := [.i p.1.k, .i p.1.n, .s (bs p.1.s), .i p.2]

theorem lin_bound {g : List Val → Int} {m : Int} : ∀ {b : List Cnt}, (∀ c ∈ b, -m ≤ g c.row ∧ g c.row ≤ m) → (∀ c ∈ b, 0 ≤ c.n) → -(m * sumN b) ≤ lin g b ∧ lin g b ≤ m * sumN b
 | [], _, _ => by simp [lin, sumN]
 | c :: b, hg, h => by
  have ih := lin_bound (b := b) (fun d hd => hg d (List.mem_cons_of_mem _ hd)) fun d hd => h d (List.mem_cons_of_mem _ hd)
  have h3 := h c (List.mem_cons_self ..)
  have h4 := hg c (List.mem_cons_self ..)
  rw [sumN_cons, Int.mul_add]
  simp only [lin]
  have h5 : c.n * g c.row ≤ c.n * m := Int.mul_le_mul_of_nonneg_left h4.2 h3
  have h6 : c.n * -m ≤ c.n * g c.row := Int.mul_le_mul_of_nonneg_left h4.1 h3
  rw [Int.mul_neg, Int.mul_comm c.n m] at h6
  rw [Int.mul_comm c.n m] at h5
  omega

theorem valI_bound {r : List Val} (h : okR r) (col : Int) : -9223372036854775808 ≤ valI col r ∧ valI col r ≤ 9223372036854775808 := by
 have := (atV_ok h col).2.1
 unfold i64 at this
 unfold valI
 split <;> omega

theorem sumN_le {B : List Cnt} (h0 : B.length ≤ 1000000) (hp : ∀ c ∈ B, 1 ≤ c.n ∧ c.n ≤ 1000000000) : 0 ≤ sumN B ∧ sumN B ≤ 1000000000000000 := by
 have h1 := sumN_abs' B
 have h3 := absN_le (b := B) (m := 1000000000) fun c hc => by have := hp c hc; omega
 have h4 : B.length * 1000000000 ≤ 1000000 * 1000000000 := Nat.mul_le_mul_right _ h0
 have h5 := sumN_nn fun c hc => by have := hp c hc; omega
 omega

theorem gagg_res (B : List Cnt) (hB : okB B) (h0 : B.length ≤ 1000000) (hp : ∀ c ∈ B, 1 ≤ c.n ∧ c.n ≤ 1000000000) (fn col : Int) :
  (m_zs [.i fn, .i col, .l (B.map Cnt.e)]).res = some (0, vu (aggV fn col B)) := by
 have hs := sumN_le h0 hp
 have ha : absN B ≤ 4611686018427387904 := by
  have h3 := absN_le (b := B) (m := 1000000000) fun c hc => by have := hp c hc; omega
  have h4 : B.length * 1000000000 ≤ 1000000 * 1000000000 := Nat.mul_le_mul_right _ h0
  omega
 by_cases f0 : fn = 0
 ·subst f0
  have h := agg_count B 0 col 0 0 (bs []) h0 ha (bs [])
  simp only [m_zs, beq_self_eq_true, res_test, res_stop, if_true, ln_map, bs_nil, h, ok_some', out_some, uI_s, uI_0, uS_s, uS_0, vu, aggV]
 ·have f0' : (fn == 0) = false := by simpa using f0
  by_cases f1 : fn = 1
  ·subst f1
   have h := agg_sum B 1 col 0 0 (bs []) h0 hp (fun c hc => (hB.2 c hc).1)
   have hb := lin_bound (g := valI col) (m := 9223372036854775808) (b := B) (fun c hc => valI_bound (hB.2 c hc).1 col) (fun c hc => by have := hp c hc; omega)
   obtain ⟨⟨b1, b2⟩, b3⟩ := bits128 (S := lin (valI col) B) (by omega)
   unfold aggV sumV
   rw [if_neg (by decide), if_pos rfl]
   generalize lin (valI col) B = S at *
   cases hany : anyI col B with
   | false =>
    rw [hany] at h
    simp only [m_zs, f0', beq_self_eq_true, res_test, res_stop, if_true, Bool.false_eq_true, if_false, ln_map, bs_nil, h, ok_some', out_some, uI_s, uI_0, uB_s, uB_0, Bool.not_false, vu, nul]
   | true =>
    rw [hany] at h
    rw [if_pos rfl]
    by_cases cr : -9223372036854775808 ≤ S ∧ S < 9223372036854775808
    ·rw [if_pos cr]
     have b3 := b3 cr
     by_cases c0 : w64 (lo64 S) ≥ 0
     ·have b1 := (b1 c0).2 cr
      have c1 : ¬ w64 (lo64 S) < 0 := by omega
      have c2 : ¬ S < 0 := by omega
      have c3 : S ≥ 0 := by omega
      simp only [m_zs, f0', beq_self_eq_true, res_test, res_stop, if_true, Bool.false_eq_true, if_false, ln_map, bs_nil, h, ok_some', out_some, uI_s, uI_0, uB_s, uB_0, Bool.not_true, vu, b3, b1, c2, c3, decide_true, decide_false, bne_self_eq_false]
     ·have c1 : w64 (lo64 S) < 0 := by omega
      have b2 := (b2 c1).2 cr
      have c2 : S < 0 := by omega
      have c3 : ¬ S ≥ 0 := by omega
      simp only [m_zs, f0', beq_self_eq_true, res_test, res_stop, if_true, Bool.false_eq_true, if_false, ln_map, bs_nil, h, ok_some', out_some, uI_s, uI_0, uB_s, uB_0, Bool.not_true, vu, b3, b2, c2, c3, decide_true, decide_false, bne_self_eq_false]
    ·rw [if_neg cr]
     by_cases c0 : w64 (lo64 S) ≥ 0
     ·have b1 : ¬ hi64 S = 0 := fun e => cr ((b1 c0).1 e)
      have b1' : (hi64 S != 0) = true := by simpa using b1
      simp only [m_zs, f0', beq_self_eq_true, res_test, res_stop, if_true, Bool.false_eq_true, if_false, ln_map, bs_nil, h, ok_some', out_some, uI_s, uI_0, uB_s, uB_0, Bool.not_true, vu, c0, b1', decide_true, nul]
     ·have c1 : w64 (lo64 S) < 0 := by omega
      have b2 : ¬ hi64 S = 18446744073709551615 := fun e => cr ((b2 c1).1 e)
      have b2' : (hi64 S != 18446744073709551615) = true := by simpa using b2
      simp only [m_zs, f0', beq_self_eq_true, res_test, res_stop, if_true, Bool.false_eq_true, if_false, ln_map, bs_nil, h, ok_some', out_some, uI_s, uI_0, uB_s, uB_0, Bool.not_true, vu, c0, c1, b2', decide_true, decide_false, nul]
  ·have f1' : (fn == 1) = false := by simpa using f1
   by_cases f2 : fn = 2
   ·subst f2
    have h := agg_best B 2 col 0 0 (bs []) 1 (.inl rfl) h0 fun c hc => (hp c hc).1
    have e0 : nul.k = 0 := rfl
    have e1 : nul.n = 0 := rfl
    have e2 : nul.s = [] := rfl
    rw [e0, e1, e2] at h
    simp only [m_zs, f0', f1', beq_self_eq_true, res_test, res_stop, if_true, Bool.false_eq_true, if_false, ln_map, bs_nil, h, ok_some', out_some, uI_s, uI_0, uS_s, uS_0, vu, aggV]
    simp
   ·have f2' : (fn == 2) = false := by simpa using f2
    by_cases f3 : fn = 3
    ·subst f3
     have h := agg_best B 3 col 0 0 (bs []) (-1) (.inr rfl) h0 fun c hc => (hp c hc).1
     have e0 : nul.k = 0 := rfl
     have e1 : nul.n = 0 := rfl
     have e2 : nul.s = [] := rfl
     rw [e0, e1, e2] at h
     simp only [m_zs, f0', f1', f2', beq_self_eq_true, res_test, res_stop, if_true, Bool.false_eq_true, if_false, ln_map, bs_nil, h, ok_some', out_some, uI_s, uI_0, uS_s, uS_0, vu, aggV]
     simp
    ·have f3' : (fn == 3) = false := by simpa using f3
     have h := agg_none B fn col 0 0 (bs []) h0 0 0 (bs [])
     simp only [m_zs, f0', f1', f2', f3', beq_self_eq_true, res_test, res_stop, if_true, Bool.false_eq_true, if_false, ln_map, bs_nil, h, ok_some', out_some, uI_s, uI_0, uS_s, uS_0, vu, aggV, f0, f1, f2, f3, nul]

theorem right_range {B : List Cnt} (h : rightB B = 0) : ∀ c ∈ B, 1 ≤ c.n ∧ c.n ≤ 1000000000 := fun c hc =>
 ⟨right_pos h c hc, by have := mayB_n (rightB_iff.1 h).1 hc; omega⟩

/-! the document's -/

end Go.Proofs.YtkaljlpbmbfpgaaGreatDoor

set_option linter.unusedVariables false
set_option linter.unusedSimpArgs false
namespace Go.Proofs.YtkaljlpbmbfpgaaGreatDoor
open Go Go.Pu

theorem Join1_res (a : List Val) (ha : a.length ≤ 1000000) : (m_zaa [.l [[.lst 39 (re a)]]]).res = some (0, [.l (re a)]) := by
 have h := Concat_res [a] (by simp) (by simp [lens]; omega)
 rw [show [a].map reR = [[PV.lst 39 (re a)]] from rfl] at h
 simp only [m_zaa, h, ok_some', out_some, res_test, res_stop, uL_0, beq_self_eq_true, if_true]
 simp

theorem txtR_inj {a b : List Val} (ha : a.all mayV = true) (hb : b.all mayV = true) (h : txtR a = txtR b) : a = b := by
 have := txtR_split (x := []) (y := []) ha hb (by rw [h])
 exact this.1

def hasT (pk : List Int) (k : List UInt8) (c : Cnt) : Bool := pickOk c.row pk && decide (txtR (pickR c.row pk) = k)

theorem pickR_may {r : List Val} (h : r.all mayV = true) {pk : List Int} (hk : pickOk r pk = true) : (pickR r pk).all mayV = true := by
 rw [List.all_eq_true]
 intro v hv
 obtain ⟨k, hkm, rfl⟩ := List.mem_map.1 hv
 unfold pickOk at hk
 have := of_decide_eq_true (List.all_eq_true.1 hk k hkm)
 have hlt : k.toNat < r.length := by omega
 have e : r.getD k.toNat nul = r[k.toNat] := by rw [List.getD, List.getElem?_eq_getElem hlt]; rfl
 rw [e]
 exact List.all_eq_true.1 h _ (List.getElem_mem hlt)

theorem mayR_all {r : List Val} (h : mayR r = true) : r.all mayV = true := by
 unfold mayR at h; rw [Bool.and_eq_true] at h; exact h.2

theorem hasT_in {pk : List Int} {k : List Val} (hk : k.all mayV = true) {B : List Cnt} (hm : mayB B = true) : B.filter (hasT pk (txtR k)) = inB pk k B := by
 unfold inB
 refine List.filter_congr fun c hc => ?_
 unfold hasT
 cases ho : pickOk c.row pk with
 | false => rfl
 | true =>
  simp only [Bool.true_and]
  rw [decide_eq_decide]
  exact ⟨txtR_inj (pickR_may (mayR_all (mayB_row hm hc)) ho) hk, fun h => by rw [h]⟩

theorem pick_okT {r : List Val} (h : mayR r = true) (ho : okR r) {pk : List Int} (hk : pickOk r pk = true) (hp : pk.length ≤ 200) : okT (pickR r pk) := by
 have hall := List.all_eq_true.1 (pickR_may (mayR_all h) hk)
 refine ⟨fun v hv => ?_, by simp [pickR]; exact hp, fun v hv => by have := may_len (hall v hv); omega⟩
 obtain ⟨k, hkm, rfl⟩ := List.mem_map.1 hv
 unfold pickOk at hk
 have := of_decide_eq_true (List.all_eq_true.1 hk k hkm)
 have hlt : k.toNat < r.length := by omega
 have e : r.getD k.toNat nul = r[k.toNat] := by rw [List.getD, List.getElem?_eq_getElem hlt]; rfl
 rw [e]
 exact ho.2 _ (List.getElem_mem hlt)

section
variable (s0 s1 s2 : ByteArray) (i j : Int) (l8 : List (List PV)) (pk : List Int) (g : Bool) (l11 : List (List PV))

theorem in_loop (B : List Cnt) (hB : okB B) (hm : mayB B = true) (h0 : B.length ≤ 1000000) (hp : pk.length ≤ 200) (K : List (List PV)) : ∀ m p (es : List (List PV)), B.length - p = m → p ≤ B.length → (∀ k, lkM es (bs k) = ((B.take p).filter (hasT pk k)).map Cnt.e) →
  ∃ es', lres rd_zab_15_9 [.l (B.map Cnt.e), .i (B.length : Nat), .i (p : Nat), .s s0, .s s1, .s s2, .i i, .i j, .l l8, .l (pk.map kE), .b g, .l l11, .l K, .l es] = some (0, [.s s0, .s s1, .s s2, .i i, .i j, .l l8, .l (pk.map kE), .b g, .l l11, .l K, .l es']) ∧ ∀ k, lkM es' (bs k) = (B.filter (hasT pk k)).map Cnt.e := by
 intro m
 induction m with
 | zero =>
  intro p es hi hle he
  have : p = B.length := by omega
  subst this
  refine ⟨es, lres_stop (by simp [rd_zab_15_9]), fun k => ?_⟩
  rw [he, List.take_length]
 | succ m ih =>
  intro p es hi hle he
  have h : p < B.length := by omega
  have hc := hB.2 B[p] (List.getElem_mem h)
  have hmr := mayB_row hm (List.getElem_mem h)
  have h1 := Pick_res B[p].row pk (by omega)
  have ht := take_cnt B h
  have row0 : cL B[p].e 0 = re B[p].row := rfl
  have row1 : cI B[p].e 1 = B[p].n := rfl
  by_cases hk : pickOk B[p].row pk = true
  ·have h2 := rowText_res (pickR B[p].row pk) (pick_okT hmr hc.1 hk hp)
   have hlen : ((lkM es (bs (txtR (pickR B[p].row pk)))).length + 1) * 32 ≤ 140737488355328 := by
    rw [he, List.length_map]
    have h3 := List.length_filter_le (hasT pk (txtR (pickR B[p].row pk))) (B.take p)
    rw [List.length_take] at h3
    omega
   obtain ⟨es', e1, e2⟩ := ih (p + 1) (putM es (bs (txtR (pickR B[p].row pk))) (PV.lst 49 (lkM es (bs (txtR (pickR B[p].row pk))) ++ [[PV.lst 39 (re B[p].row), pI B[p].n]]))) (by omega) (by omega) fun k => by
    rw [lk_put, he, he, ht, List.filter_append]
    by_cases e : bs k = bs (txtR (pickR B[p].row pk))
    ·have e' := bs_inj e
     have : hasT pk k B[p] = true := by simp [hasT, hk, e']
     rw [if_pos e, ← e']
     simp [List.filter_cons, this, Cnt.e]
    ·have : hasT pk k B[p] = false := by
      simp only [hasT, hk, Bool.true_and, decide_eq_false_iff_not]
      exact fun h4 => e (by rw [h4])
     rw [if_neg e]
     simp [List.filter_cons, this]
   refine ⟨es', ?_, e2⟩
   rw [← e1]
   refine lres_next ?_
   simp only [rd_zab_15_9, rt_test, rt_next, el_map _ _ h, ln_map, inR_cast, Int.ofNat_lt, h, decide_true, if_true, row0, row1, h1, h2, hk, ok_some', out_some, uB_0, uL_s, uL_0, uS_0, beq_self_eq_true, hlen, w64_succ (i := p) (by omega)]
  ·have hk' : pickOk B[p].row pk = false := by simpa using hk
   obtain ⟨es', e1, e2⟩ := ih (p + 1) es (by omega) (by omega) fun k => by
    rw [he, ht, List.filter_append]
    have : hasT pk k B[p] = false := by simp [hasT, hk']
    simp [List.filter_cons, this]
   refine ⟨es', ?_, e2⟩
   rw [← e1]
   refine lres_next ?_
   simp only [rd_zab_15_9, rt_test, rt_next, el_map _ _ h, ln_map, inR_cast, Int.ofNat_lt, h, decide_true, if_true, row0, row1, h1, hk', ok_some', out_some, uB_0, Bool.false_eq_true, if_false, beq_self_eq_true, w64_succ (i := p) (by omega)]

theorem aggs_loop (nk kx : Int) (ag : List Ag) (hag : ag.length ≤ 1000000) (es O : List (List PV)) (k : List Val) (hk : okT k) (kn : Int) (K : List (List PV)) (b : List Cnt) (hb : okB b) (hl : b.length ≤ 1000000) (hp : ∀ c ∈ b, 1 ≤ c.n ∧ c.n ≤ 1000000000) (hes : lkM es (bs (txtR k)) = b.map Cnt.e) :
  ∀ (rest pre : List Ag), ag = pre ++ rest → ∀ (acc : List Val), acc.length ≤ 1000 + pre.length →
  lres rd_zab_15_23 [.i nk, .i kx, .l (ag.map Ag.e), .i (ag.length : Nat), .i (pre.length : Nat), .s s0, .s s1, .s s2, .i i, .i j, .l l8, .l (pk.map kE), .b g, .l (ag.map Ag.e), .l es, .l O, .l (re k), .i kn, .l (re acc), .l K] =
   if (aggsV b rest).2 ≠ 0 then some (0, [.i (aggsV b rest).2]) else some (1, [.i nk, .i kx, .s s0, .s s1, .s s2, .i i, .i j, .l l8, .l (pk.map kE), .b g, .l (ag.map Ag.e), .l es, .l O, .l (re (acc ++ (aggsV b rest).1)), .l K]) := by
 intro rest
 induction rest with
 | nil =>
  intro pre he acc ha
  have e : pre.length = ag.length := by rw [he]; simp
  rw [show (aggsV b []) = ([], 0) from rfl, if_neg (by simp), List.append_nil, e]
  exact lres_stop (by simp [rd_zab_15_23])
 | cons a rest ih =>
  intro pre he acc ha
  have hlen : ag.length = pre.length + (rest.length + 1) := by rw [he]; simp
  have h : pre.length < ag.length := by omega
  have hat : ag[pre.length] = a := by subst he; simp
  have h1 := rowText_res k hk
  have h2 := gagg_res b hb hl hp a.f a.c
  have h3 : cI (Ag.e ag[pre.length]) 0 = a.f := by rw [hat]; rfl
  have h4 : cI (Ag.e ag[pre.length]) 1 = a.c := by rw [hat]; rfl
  by_cases c : (aggV a.f a.c b).2 = 0
  ·have c' : ((aggV a.f a.c b).2 != 0) = false := by simpa using c
   have hw : ((re acc).length + 1) * 32 ≤ 140737488355328 := by simp [re]; omega
   have hre : re acc ++ [[pI (aggV a.f a.c b).1.k, pI (aggV a.f a.c b).1.n, pS (bs (aggV a.f a.c b).1.s)]] = re (acc ++ [(aggV a.f a.c b).1]) := by simp [re, Val.e]
   have := ih (pre ++ [a]) (by simp [he]) (acc ++ [(aggV a.f a.c b).1]) (by simp; omega)
   rw [show ((pre ++ [a]).length : Int) = ((pre.length + 1 : Nat) : Int) by simp] at this
   rw [lres_next (us' := [.i nk, .i kx, .l (ag.map Ag.e), .i (ag.length : Nat), .i ((pre.length + 1 : Nat) : Int), .s s0, .s s1, .s s2, .i i, .i j, .l l8, .l (pk.map kE), .b g, .l (ag.map Ag.e), .l es, .l O, .l (re k), .i kn, .l (re (acc ++ [(aggV a.f a.c b).1])), .l K]) (by
    simp only [rd_zab_15_23, rt_test, rt_next, rt_stop, el_map _ _ h, ln_map, inR_cast, Int.ofNat_lt, h, decide_true, if_true, h3, h4, h1, hes, h2, ok_some', out_some, uS_0, uS_s, uI_s, uI_0, vu, beq_self_eq_true, c', Bool.false_eq_true, if_false, hw, hre, w64_succ (i := pre.length) (by omega)]), this]
   by_cases c2 : (aggsV b rest).2 ≠ 0
   ·rw [aggsV_late c c2, if_pos c2, if_pos c2]
   ·rw [aggsV_good c c2, if_neg c2, if_neg (by simp)]
    simp
  ·have c' : ((aggV a.f a.c b).2 != 0) = true := by simpa using c
   rw [aggsV_bad c, if_pos c]
   exact lres_stop (by
    simp only [rd_zab_15_23, rt_test, rt_next, rt_stop, el_map _ _ h, ln_map, inR_cast, Int.ofNat_lt, h, decide_true, if_true, h3, h4, h1, hes, h2, ok_some', out_some, uS_0, uS_s, uI_s, uI_0, vu, beq_self_eq_true, c'])

theorem keys_loop (ag : List Ag) (hag : ag.length ≤ 1000000) (B : List Cnt) (hB : okB B) (h0 : B.length ≤ 1000000) (hr : rightB B = 0) (es : List (List PV)) (hes : ∀ k : List Val, k.all mayV = true → lkM es (bs (txtR k)) = (inB pk k B).map Cnt.e)
  (K : List Cnt) (hK : K.length ≤ 1000000) (hKr : ∀ c ∈ K, mayR c.row = true ∧ okR c.row ∧ c.row.length + ag.length ≤ 40) :
  ∀ (rest pre : List Cnt), K = pre ++ rest → ∀ (O : List Cnt), O.length ≤ pre.length →
  lres rd_zab_15_17 [.i (K.length : Nat), .i (pre.length : Nat), .s s0, .s s1, .s s2, .i i, .i j, .l l8, .l (pk.map kE), .b g, .l (ag.map Ag.e), .l es, .l (O.map Cnt.e), .l (K.map Cnt.e)] =
   if (groupF pk ag B (rest.map Cnt.row)).2 ≠ 0 then some (0, [.i (groupF pk ag B (rest.map Cnt.row)).2]) else some (1, [.l ((O ++ (groupF pk ag B (rest.map Cnt.row)).1).map Cnt.e)]) := by
 intro rest
 induction rest with
 | nil =>
  intro pre he O hO
  have e : pre.length = K.length := by rw [he]; simp
  rw [show groupF pk ag B ([].map Cnt.row) = ([], 0) from rfl, if_neg (by simp), List.append_nil, e]
  exact lres_stop (by simp [rd_zab_15_17])
 | cons c rest ih =>
  intro pre he O hO
  have hlen : K.length = pre.length + (rest.length + 1) := by rw [he]; simp
  have h : pre.length < K.length := by omega
  have hat : K[pre.length] = c := by subst he; simp
  obtain ⟨m1, m2, m3⟩ := hKr c (by rw [he]; simp)
  have row0 : cL (Cnt.e K[pre.length]) 0 = re c.row := by rw [hat]; rfl
  have row1 : cI (Cnt.e K[pre.length]) 1 = c.n := by rw [hat]; rfl
  have hall := mayR_all m1
  have hT : okT c.row := ⟨m2.2, by omega, fun v hv => by have := may_len (List.all_eq_true.1 hall v hv); omega⟩
  have hsub : ∀ x ∈ inB pk c.row B, x ∈ B := fun x hx => (List.mem_filter.1 hx).1
  have hbl : (inB pk c.row B).length ≤ B.length := List.length_filter_le _ _
  have h1 := Join1_res c.row (by omega)
  have h2 := aggs_loop s0 s1 s2 i j l8 pk g (K.length : Nat) (pre.length : Nat) ag hag es (O.map Cnt.e) c.row hT c.n (K.map Cnt.e) (inB pk c.row B) ⟨by have := hB.1; omega, fun x hx => hB.2 x (hsub x hx)⟩ (by omega) (fun x hx => right_range hr x (hsub x hx)) (hes c.row hall) ag [] rfl c.row (by simp; omega)
  have hlt : Int.toNat ((pre.length : Nat) : Int) < (K.map Cnt.e).length := by simp; exact h
  have hno : ¬ w64 (ln (re c.row) + (ag.length : Int)) > 40 := by
   rw [ln_re, w64_eq (by omega) (by omega)]; omega
  simp only [List.length_nil, Int.natCast_zero] at h2
  rw [List.map_cons]
  by_cases k0 : (aggsV (inB pk c.row B) ag).2 ≠ 0
  ·rw [if_pos k0] at h2
   rw [groupF_bad k0, if_pos k0]
   exact lres_stop (by
    simp only [rd_zab_15_17, rt_test, rt_next, rt_stop, el_map _ _ h, ln_map, inR_cast, Int.ofNat_lt, h, hlt, decide_true, if_true, row0, row1, hno, decide_false, Bool.false_eq_true, if_false, h1, h2, ok_some', out_some, uL_0, uI_0, beq_self_eq_true])
  ·rw [if_neg k0] at h2
   have := ih (pre ++ [c]) (by simp [he]) (O ++ [⟨c.row ++ (aggsV (inB pk c.row B) ag).1, 1⟩]) (by simp; omega)
   rw [show ((pre ++ [c]).length : Int) = ((pre.length + 1 : Nat) : Int) by simp] at this
   have hw : ((O.map Cnt.e).length + 1) * 32 ≤ 140737488355328 := by simp; omega
   have hO2 : O.map Cnt.e ++ [[PV.lst 39 (re (c.row ++ (aggsV (inB pk c.row B) ag).1)), pI 1]] = (O ++ [(⟨c.row ++ (aggsV (inB pk c.row B) ag).1, 1⟩ : Cnt)]).map Cnt.e := by simp [Cnt.e]
   have n01 : ((1 : Nat) == 0) = false := rfl
   have n10 : ((0 : Nat) == 1) = false := rfl
   rw [lres_next (us' := [.i (K.length : Nat), .i ((pre.length + 1 : Nat) : Int), .s s0, .s s1, .s s2, .i i, .i j, .l l8, .l (pk.map kE), .b g, .l (ag.map Ag.e), .l es, .l ((O ++ [(⟨c.row ++ (aggsV (inB pk c.row B) ag).1, 1⟩ : Cnt)]).map Cnt.e), .l (K.map Cnt.e)]) (by
    simp only [rd_zab_15_17, rt_test, rt_next, rt_stop, el_map _ _ h, ln_map, inR_cast, Int.ofNat_lt, h, hlt, decide_true, if_true, row0, row1, hno, decide_false, Bool.false_eq_true, if_false, h1, h2, ok_some', out_some, n01, n10, uL_0, uI_0, uI_s, uL_s, uS_s, uS_0, uB_s, uB_0, beq_self_eq_true, hw, hO2, w64_succ (i := pre.length) (by omega)]), this]
   by_cases c2 : (groupF pk ag B (rest.map Cnt.row)).2 ≠ 0
   ·rw [groupF_late k0 c2, if_pos c2, if_pos c2]
   ·rw [groupF_good k0 c2, if_neg c2, if_neg (by simp)]
    simp

theorem GRows_res (n0 n1 w : List UInt8) (ag : List Ag) (hag : ag.length ≤ 1000000) (hp : pk.length ≤ 200) (B : List Cnt) (hB : okB B) (h0 : B.length ≤ 1000000) :
  (m_zab [.s (bs n0), .s (bs n1), .s (bs w), .i i, .i j, .l l8, .l (pk.map kE), .b g, .l (ag.map Ag.e), .l (B.map Cnt.e)]).res = some (0, [.i (groupV pk g ag B).2, .l ((groupV pk g ag B).1.map Cnt.e)]) := by
 have h1 := gright_res B hB h0
 unfold groupV
 by_cases hr : rightB B = 0
 ·rw [if_neg (by simp [hr])]
  rw [hr] at h1
  have hm := (rightB_iff.1 hr).1
  have h2 := PickB_res n0 n1 w i j l8 pk (by omega) g (ag.map Ag.e) B hB h0
  cases g with
  | false =>
   rw [if_pos rfl]
   simp only [m_zab, h1, h2, res_test, res_stop, ok_some', out_some, uI_0, uL_0, beq_self_eq_true, if_true, bne_self_eq_false, Bool.not_false, Bool.false_eq_true, if_false]
  | true =>
   rw [if_neg (by simp)]
   obtain ⟨es, h3, h4⟩ := in_loop (bs n0) (bs n1) (bs w) i j l8 pk true (ag.map Ag.e) B hB hm h0 hp ((pickV pk B).map Cnt.e) B.length 0 [] (by omega) (by omega) fun k => rfl
   have hes : ∀ k : List Val, k.all mayV = true → lkM es (bs (txtR k)) = (inB pk k B).map Cnt.e := fun k hk => by rw [h4, hasT_in hk hm]
   have hKo := pickV_okB hB h0 (by omega : pk.length ≤ 1000000)
   have hKl : ∀ c ∈ pickV pk B, c.row.length = pk.length ∧ c.row.length ≤ 40 := fun c hc => by
    obtain ⟨_, _, _, _, e1, e2⟩ := key_of (pk := pk) (b := B) (List.mem_map.2 ⟨c, hc, rfl⟩)
    exact ⟨e1, e2⟩
   simp only [Int.natCast_zero] at h3
   by_cases ht : pickV pk B ≠ [] ∧ 40 < pk.length + ag.length
   ·rw [if_pos ht]
    obtain ⟨c, K, hK⟩ := List.exists_cons_of_ne_nil ht.1
    have hc := hKl c (by rw [hK]; simp)
    have h5 : lres rd_zab_15_17 [.i ((pickV pk B).length : Nat), .i 0, .s (bs n0), .s (bs n1), .s (bs w), .i i, .i j, .l l8, .l (pk.map kE), .b true, .l (ag.map Ag.e), .l es, .l [], .l ((pickV pk B).map Cnt.e)] = some (0, [.i 100]) := by
     have hln : (pickV pk B).length = K.length + 1 := by rw [hK]; rfl
     have e0 : el ((pickV pk B).map Cnt.e) 0 = Cnt.e c := by rw [hK]; rfl
     have e1 : inR 0 (((K.length + 1 : Nat)) : Int) = true := inR_iff.2 ⟨by omega, by omega⟩
     have e2 : (0 : Int) < ((K.length + 1 : Nat) : Int) := by omega
     have e3 : Int.toNat 0 < ((pickV pk B).map Cnt.e).length := by rw [List.length_map, hln]; exact Nat.succ_pos _
     have row0 : cL (Cnt.e c) 0 = re c.row := rfl
     have hno : w64 (ln (re c.row) + (ag.length : Int)) > 40 := by
      rw [ln_re, w64_eq (by omega) (by omega)]; omega
     exact lres_stop (by
      simp only [rd_zab_15_17, rt_test, rt_next, rt_stop, ln_map, hln, e0, e1, e2, e3, decide_true, if_true, row0, hno])
    simp only [m_zab, h1, h2, h3, h5, res_test, res_stop, ok_some', out_some, uI_0, uI_s, uL_0, uL_s, uS_0, uS_s, uB_0, uB_s, ln_map, beq_self_eq_true, if_true, bne_self_eq_false, Bool.not_true, Bool.false_eq_true, if_false, List.map_nil]
   ·rw [if_neg ht]
    have hKr : ∀ c ∈ pickV pk B, mayR c.row = true ∧ okR c.row ∧ c.row.length + ag.length ≤ 40 := fun c hc => by
     refine ⟨mayB_row (pickV_may pk B) hc, (hKo.1.2 c hc).1, ?_⟩
     have e := hKl c hc
     have : ¬ 40 < pk.length + ag.length := fun h => ht ⟨List.ne_nil_of_mem hc, h⟩
     omega
    have h5 := keys_loop (bs n0) (bs n1) (bs w) i j l8 pk true ag hag B hB h0 hr es hes (pickV pk B) (by omega) hKr (pickV pk B) [] rfl [] (by simp)
    simp only [List.length_nil, Int.natCast_zero, List.nil_append, List.map_nil] at h5
    have n01 : ((1 : Nat) == 0) = false := rfl
    have n10 : ((0 : Nat) == 1) = false := rfl
    unfold keysB
    by_cases c2 : (groupF pk ag B ((pickV pk B).map Cnt.row)).2 ≠ 0
    ·rw [if_pos c2] at h5
     rw [groupF_err c2]
     simp only [m_zab, h1, h2, h3, h5, res_test, res_stop, ok_some', out_some, uI_0, uI_s, uL_0, uL_s, uS_0, uS_s, uB_0, uB_s, ln_map, beq_self_eq_true, if_true, bne_self_eq_false, Bool.not_true, Bool.false_eq_true, if_false, List.map_nil]
    ·rw [if_neg c2] at h5
     have c3 : (groupF pk ag B ((pickV pk B).map Cnt.row)).2 = 0 := by simpa using c2
     rw [c3]
     simp only [m_zab, h1, h2, h3, h5, n01, n10, res_test, res_stop, ok_some', out_some, uI_0, uI_s, uL_0, uL_s, uS_0, uS_s, uB_0, uB_s, ln_map, beq_self_eq_true, if_true, bne_self_eq_false, Bool.not_true, Bool.false_eq_true, if_false]
 ·rw [if_pos hr]
  have hr' : (rightB B != 0) = true := by simpa using hr
  simp only [m_zab, h1, res_test, res_stop, ok_some', out_some, uI_0, beq_self_eq_true, if_true, hr', List.map_nil]

end

end Go.Proofs.YtkaljlpbmbfpgaaGreatDoor

set_option linter.unusedVariables false
set_option linter.unusedSimpArgs false
namespace Go.Proofs.YtkaljlpbmbfpgaaGreatDoor
open Go Go.Pu

section
variable (s0 s1 s2 : ByteArray) (i j : Int) (l8 : List (List PV)) (pk : List Int) (g : Bool) (l11 : List (List PV))

end

end Go.Proofs.YtkaljlpbmbfpgaaGreatDoor

set_option linter.unusedVariables false
set_option linter.unusedSimpArgs false
namespace Go.Proofs.YtkaljlpbmbfpgaaGreatDoor
open Go Go.Pu

/-! groups' rows are good rows -/

theorem two_ok {n : Int} (h : i64 n) : Val.ok ⟨2, n, []⟩ := ⟨show i64 2 by unfold i64; decide, h, show ([] : List UInt8).length ≤ big by decide⟩

theorem aggV_ok {b : List Cnt} (hb : okB b) (hr : rightB b = 0) (fn col : Int) : (aggV fn col b).1.ok := by
 have hs := (rightB_iff.1 hr).2.2
 have h0 := sumN_nn fun c hc => negFree_iff.1 (rightB_iff.1 hr).2.1 c hc
 have best : ∀ s, (bestV s col b nul).ok := fun s => by
  rcases bestV_mem s col b nul with h | ⟨c, hc, h⟩
  ·rw [h]; exact nul_ok
  ·rw [h]; exact atV_ok (hb.2 c hc).1 col
 unfold aggV
 split
 ·exact two_ok (by unfold i64; omega)
 ·split
  ·unfold sumV
   split
   ·split
    ·rename_i h; exact two_ok h
    ·exact nul_ok
   ·exact nul_ok
  ·split
   ·exact best 1
   ·split
    ·exact best (-1)
    ·exact nul_ok

theorem aggV_may {b : List Cnt} (hb : mayB b = true) (fn col : Int) : mayV (aggV fn col b).1 = true := by
 have best : ∀ s, mayV (bestV s col b nul) = true := fun s => by
  rcases bestV_mem s col b nul with h | ⟨c, hc, h⟩
  ·rw [h]; rfl
  ·rw [h]; exact atV_may (mayB_row hb hc) col
 have two : ∀ n : Int, mayV ⟨2, n, []⟩ = true := fun n => by simp [mayV]
 unfold aggV
 split
 ·exact two _
 ·split
  ·unfold sumV
   split
   ·split
    ·exact two _
    ·rfl
   ·rfl
  ·split
   ·exact best 1
   ·split
    ·exact best (-1)
    ·rfl

theorem inB_okB {pk : List Int} {k : List Val} {b : List Cnt} (h : okB b) : okB (inB pk k b) :=
 ⟨Nat.le_trans (List.length_filter_le _ _) h.1, fun c hc => h.2 c (List.mem_filter.1 hc).1⟩

theorem groupV_row {pk : List Int} {g : Bool} {ag : List Ag} {b : List Cnt} (hg : g = true) {c : Cnt} (hc : c ∈ (groupV pk g ag b).1) :
  rightB b = 0 ∧ pk.length + ag.length ≤ 40 ∧ (groupV pk g ag b).2 = 0 ∧ ∃ k ∈ keysB pk b, (aggsV (inB pk k b) ag).2 = 0 ∧ c = ⟨k ++ (aggsV (inB pk k b) ag).1, 1⟩ := by
 unfold groupV at hc ⊢
 split at hc
 ·cases hc
 ·rename_i h1
  have h1 : rightB b = 0 := by simpa using h1
  rw [if_neg (by simp [h1])]
  split at hc
  ·rename_i h; rw [hg] at h; cases h
  ·rw [if_neg ‹_›]
   split at hc
   ·cases hc
   ·rename_i h2
    rw [if_neg h2]
    obtain ⟨k, hk, ha, he⟩ := groupF_mem hc
    refine ⟨h1, ?_, ?_, k, hk, ha, he⟩
    ·have : pickV pk b ≠ [] := fun e => by unfold keysB at hk; rw [e] at hk; cases hk
     exact Classical.byContradiction fun hn => h2 ⟨this, by omega⟩
    ·exact Classical.byContradiction fun hn => by rw [groupF_err hn] at hc; cases hc

theorem groupV_okB {pk : List Int} {g : Bool} {ag : List Ag} {b : List Cnt} (hb : okB b) (h0 : b.length ≤ 1000000) (hp : pk.length ≤ 1000000) : okB (groupV pk g ag b).1 ∧ (groupV pk g ag b).1.length ≤ b.length := by
 have hK := pickV_okB hb h0 hp
 cases g with
 | false =>
  unfold groupV
  split
  ·exact ⟨nil_okB, by simp⟩
  ·rw [if_pos rfl]; exact hK
 | true =>
  have hl : (groupV pk true ag b).1.length ≤ b.length := by
   unfold groupV
   split
   ·simp
   ·rw [if_neg (by simp)]
    split
    ·simp
    ·by_cases he : (groupF pk ag b (keysB pk b)).2 = 0
     ·rw [groupF_eq he]; simp [keysB]; exact hK.2
     ·rw [groupF_err he]; simp
  refine ⟨⟨by have := hb.1; omega, fun c hc => ?_⟩, hl⟩
  obtain ⟨hr, h40, _, k, hk, ha, rfl⟩ := groupV_row rfl hc
  obtain ⟨d, hd, hdk⟩ := List.mem_map.1 hk
  have hko := (hK.1.2 d hd).1
  rw [hdk] at hko
  obtain ⟨_, _, _, _, e1, _⟩ := key_of hk
  have hln := aggsV_len ha
  refine ⟨⟨?_, fun v hv => ?_⟩, show i64 1 by unfold i64; decide⟩
  ·show (k ++ _).length ≤ _
   rw [List.length_append, hln]; omega
  ·rcases List.mem_append.1 hv with h | h
   ·exact hko.2 v h
   ·obtain ⟨a, _, _, rfl⟩ := aggsV_mem v h
    exact aggV_ok (inB_okB hb) (right_filter hr) _ _

/-! what the document fixes -/

def okVb (v : Val) : Bool := decide (-9223372036854775808 ≤ v.k ∧ v.k < 9223372036854775808) && decide (-9223372036854775808 ≤ v.n ∧ v.n < 9223372036854775808) && decide (v.s.length ≤ 1000)
def okBb (b : List Cnt) : Bool := decide (b.length ≤ 1000) && b.all fun c => decide (c.row.length ≤ 1000) && c.row.all okVb && decide (-9223372036854775808 ≤ c.n ∧ c.n < 9223372036854775808)
theorem okB_dec {b : List Cnt} (h : okBb b = true) : okB b := by
 unfold okBb at h
 simp only [Bool.and_eq_true, decide_eq_true_eq, List.all_eq_true] at h
 refine ⟨by omega, fun c hc => ?_⟩
 obtain ⟨⟨h1, h2⟩, h3⟩ := h.2 c hc
 refine ⟨⟨by omega, fun v hv => ?_⟩, h3⟩
 have := h2 v hv
 unfold okVb at this
 simp only [Bool.and_eq_true, decide_eq_true_eq] at this
 exact ⟨this.1.1, this.1.2, by unfold big; omega⟩

section
variable (n0 n1 w : List UInt8) (i j : Int) (l5 : List (List PV))

end

/-- without picks all rows are in one group -/
theorem pickL_nil : ∀ (B : List Cnt), pickL [] B = B.map fun c => ⟨[], c.n⟩
 | [] => rfl
 | c :: B => by
  have : pickL [] (c :: B) = pickC [] c ++ pickL [] B := rfl
  rw [this, pickL_nil B]; rfl

theorem inB_nil (B : List Cnt) : inB [] [] B = B := by
 unfold inB
 rw [List.filter_eq_self]
 intro c _
 rfl

theorem canon_one {b : List Cnt} (h : canon b) (hr : ∀ c ∈ b, c.row = []) (hn : b ≠ []) : b.map Cnt.row = [[]] := by
 match b, hn with
 | [c], _ => rw [List.map_cons, hr c (List.mem_cons_self ..)]; rfl
 | c :: d :: b, _ =>
  have h1 := (List.pairwise_cons.1 h.1).1 d (List.mem_cons_self ..)
  rw [hr c (List.mem_cons_self ..), hr d (by simp)] at h1
  exact absurd h1 (by decide)

theorem keys_nil {B : List Cnt} (hr : rightB B = 0) : keysB [] B = if B = [] then [] else [[]] := by
 unfold keysB
 rw [pickV_right hr]
 by_cases h : B = []
 ·subst h; rfl
 ·rw [if_neg h]
  refine canon_one (sumB_canon _) (fun c hc => ?_) fun e => ?_
  ·obtain ⟨d, hd, hr⟩ := sumB_row hc
   rw [pickL_nil] at hd
   obtain ⟨x, _, rfl⟩ := List.mem_map.1 hd
   exact hr.symm
  ·have h1 := sumB_cnt (pickL [] B) []
   rw [e, cnt_nil, pick_cnt] at h1
   have h2 : lin (pickG [] []) B = sumN B := by
    rw [sumN_lin]; exact lin_ext fun c _ => rfl
   rw [h2] at h1
   obtain ⟨c, B', rfl⟩ := List.exists_cons_of_ne_nil h
   have h3 := right_pos hr c (List.mem_cons_self ..)
   have h4 := sumN_nn (l := B') fun d hd => by have := right_pos hr d (List.mem_cons_of_mem _ hd); omega
   rw [sumN_cons] at h1
   omega

theorem groupV_one {B : List Cnt} (hr : rightB B = 0) (ag : List Ag) (h40 : ag.length ≤ 40) : groupV [] true ag B = if B = [] then ([], 0) else if (aggsV B ag).2 ≠ 0 then ([], (aggsV B ag).2) else ([⟨(aggsV B ag).1, 1⟩], 0) := by
 unfold groupV
 rw [if_neg (by simp [hr]), if_neg (by simp), if_neg (by simp; omega), keys_nil hr]
 by_cases h : B = []
 ·rw [if_pos h, if_pos h]; rfl
 ·rw [if_neg h, if_neg h]
  unfold groupF
  rw [inB_nil]
  rfl

end Go.Proofs.YtkaljlpbmbfpgaaGreatDoor

set_option linter.unusedVariables false
set_option linter.unusedSimpArgs false
namespace Go.Proofs.YtkaljlpbmbfpgaaGreatDoor
open Go Go.Pu

/-! two bags together, whatever the first one is -/

theorem w64_i64 (n : Int) : i64 (w64 n) := by
 unfold i64; rw [w64_def]; omega

theorem any_loop5 (b : List Cnt) (hb : okB b) (hl : b.length ≤ 4000000) (r : List Val) (hr : okR r) (n : Int) (hn : i64 n) : ∀ m i (lb : Bool) (o : List Cnt), b.length - i = m → i ≤ b.length → o.length ≤ i + lb.toNat → (∀ c ∈ o, c.ok) →
  ∃ (lb' : Bool) (o' : List Cnt), lres rd_zan_36_4 [.l (b.map Cnt.e), .l (re r), .i n, .b lb, .i (i : Nat), .l (o.map Cnt.e)] = some (0, [.l (re r), .i n, .b lb', .l (o'.map Cnt.e)]) ∧ o'.length ≤ b.length + lb'.toNat ∧ ∀ c ∈ o', c.ok := by
 intro m
 induction m with
 | zero =>
  intro i lb o h1 h2 h3 h4
  have : i = b.length := by omega
  subst this
  exact ⟨lb, o, lres_stop (by simp [rd_zan_36_4]), h3, h4⟩
 | succ m ih =>
  intro i lb o h1 h2 h3 h4
  have h : i < b.length := by omega
  have hm := List.getElem_mem h
  have hc := R02_Compare_res b[i].row r (hb.2 _ hm).1.1
  have hlb : lb.toNat ≤ 1 := by cases lb <;> decide
  have e1 : ((o.map Cnt.e).length + 1) * 32 ≤ 140737488355328 := by rw [List.length_map]; omega
  have e2 : ∀ x : List PV, ((o.map Cnt.e ++ [x]).length + 1) * 32 ≤ 140737488355328 := fun x => by
   have : (o.map Cnt.e ++ [x]).length = o.length + 1 := by simp
   omega
  have hbi : b[i].e = [PV.lst 39 (re b[i].row), pI b[i].n] := rfl
  have one : ∀ n, [[PV.lst 39 (re r), pI n]] = ([⟨r, n⟩] : List Cnt).map Cnt.e := fun n => rfl
  have bone : [[PV.lst 39 (re b[i].row), pI b[i].n]] = ([b[i]] : List Cnt).map Cnt.e := rfl
  have go : ∀ (lb2 : Bool) (x : List Cnt), x.length + lb.toNat ≤ 1 + lb2.toNat → (∀ c ∈ x, c.ok) → (rd_zan_36_4 [.l (b.map Cnt.e), .l (re r), .i n, .b lb, .i (i : Nat), .l (o.map Cnt.e)]).val = some (.next [.l (b.map Cnt.e), .l (re r), .i n, .b lb2, .i ((i + 1 : Nat) : Int), .l ((o ++ x).map Cnt.e)]) →
    ∃ (lb' : Bool) (o' : List Cnt), lres rd_zan_36_4 [.l (b.map Cnt.e), .l (re r), .i n, .b lb, .i (i : Nat), .l (o.map Cnt.e)] = some (0, [.l (re r), .i n, .b lb', .l (o'.map Cnt.e)]) ∧ o'.length ≤ b.length + lb'.toNat ∧ ∀ c ∈ o', c.ok := fun lb2 x hx hok hs => by
   rw [lres_next hs]
   exact ih (i + 1) lb2 (o ++ x) (by omega) (by omega) (by rw [List.length_append]; omega) fun c hc => (List.mem_append.1 hc).elim (h4 c) (hok c)
  have okb : ∀ c ∈ [b[i]], c.ok := fun c hc => by rw [List.mem_singleton] at hc; rw [hc]; exact hb.2 _ hm
  have okr : ∀ m : Int, i64 m → ∀ c ∈ [(⟨r, m⟩ : Cnt)], c.ok := fun m hm c hc => by rw [List.mem_singleton] at hc; rw [hc]; exact ⟨hr, hm⟩
  have n0 : ((0 : Int) != 0) = false := rfl
  have n1 : ((1 : Int) != 0) = true := rfl
  have nm : ((-1 : Int) != 0) = true := rfl
  have q1 : ((1 : Int) == 0) = false := rfl
  have g0 : ((0 : Int) ≥ 0) = True := by simp
  have g1 : ((1 : Int) ≥ 0) = True := by simp
  have gm : ((-1 : Int) ≥ 0) = False := by simp
  rcases cR.rng b[i].row r with hx | hx | hx
  ·refine go lb [b[i]] (by simp) okb ?_
   rw [map_app_e, ← bone]
   simp only [rd_zan_36_4, rt_test, rt_next, rt_stop, el_map _ _ h, row_e, n_e, ln_map, inR_cast, Int.ofNat_lt, h, decide_true, decide_false, if_true, hc, hx, gm, nm, ok_some', out_some, uI_0, beq_self_eq_true, e1, Bool.false_eq_true, if_false, w64_succ (i := i) (by omega)]
  ·cases lb with
   | true =>
    refine go true [] (by simp) (fun _ h => by cases h) ?_
    rw [List.append_nil]
    simp only [rd_zan_36_4, rt_test, rt_next, rt_stop, el_map _ _ h, row_e, n_e, ln_map, inR_cast, Int.ofNat_lt, h, decide_true, decide_false, if_true, hc, hx, g0, n0, ok_some', out_some, uI_0, beq_self_eq_true, e1, Bool.not_true, Bool.false_eq_true, if_false, w64_succ (i := i) (by omega)]
   | false =>
    by_cases hz : w64 (n + b[i].n) = 0
    ·refine go true [] (by simp) (fun _ h => by cases h) ?_
     rw [List.append_nil]
     simp only [rd_zan_36_4, rt_test, rt_next, rt_stop, el_map _ _ h, row_e, n_e, ln_map, inR_cast, Int.ofNat_lt, h, decide_true, decide_false, if_true, hc, hx, hz, g0, n0, ok_some', out_some, uI_0, beq_self_eq_true, e1, Bool.not_false, Bool.false_eq_true, if_false, w64_succ (i := i) (by omega)]
    ·have hz' : (w64 (n + b[i].n) != 0) = true := by simpa using hz
     refine go true [⟨r, w64 (n + b[i].n)⟩] (by simp) (okr _ (w64_i64 _)) ?_
     rw [map_app_e, ← one]
     simp only [rd_zan_36_4, rt_test, rt_next, rt_stop, el_map _ _ h, row_e, n_e, ln_map, inR_cast, Int.ofNat_lt, h, decide_true, decide_false, if_true, hc, hx, hz', g0, n0, ok_some', out_some, uI_0, beq_self_eq_true, e1, Bool.not_false, Bool.false_eq_true, if_false, w64_succ (i := i) (by omega)]
  ·cases lb with
   | true =>
    refine go true [b[i]] (by simp) okb ?_
    rw [map_app_e, ← bone]
    simp only [rd_zan_36_4, rt_test, rt_next, rt_stop, el_map _ _ h, row_e, n_e, ln_map, inR_cast, Int.ofNat_lt, h, decide_true, decide_false, if_true, hc, hx, g1, n1, ok_some', out_some, uI_0, beq_self_eq_true, e1, Bool.not_true, Bool.false_eq_true, if_false, w64_succ (i := i) (by omega)]
   | false =>
    by_cases hz : n = 0
    ·have hz' : (n != 0) = false := by simpa using hz
     refine go true [b[i]] (by simp) okb ?_
     rw [map_app_e, ← bone]
     simp only [rd_zan_36_4, rt_test, rt_next, rt_stop, el_map _ _ h, row_e, n_e, ln_map, inR_cast, Int.ofNat_lt, h, decide_true, decide_false, if_true, hc, hx, hz', g1, n1, q1, ok_some', out_some, uI_0, beq_self_eq_true, e1, Bool.not_false, Bool.false_eq_true, if_false, w64_succ (i := i) (by omega)]
    ·have hz' : (n != 0) = true := by simpa using hz
     refine go true [⟨r, n⟩, b[i]] (by simp) (fun c hc => (List.mem_cons.1 hc).elim (fun e => okr n hn c (by rw [e]; simp)) (okb c)) ?_
     have : (o ++ [⟨r, n⟩, b[i]]).map Cnt.e = o.map Cnt.e ++ [[PV.lst 39 (re r), pI n]] ++ [[PV.lst 39 (re b[i].row), pI b[i].n]] := by simp [Cnt.e]
     rw [this]
     simp only [rd_zan_36_4, rt_test, rt_next, rt_stop, el_map _ _ h, row_e, n_e, ln_map, inR_cast, Int.ofNat_lt, h, decide_true, decide_false, if_true, hc, hx, hz', g1, n1, q1, ok_some', out_some, uI_0, beq_self_eq_true, e1, e2, Bool.not_false, Bool.false_eq_true, if_false, w64_succ (i := i) (by omega)]

theorem AddAny (b : List Cnt) (hb : okB b) (hl : b.length ≤ 4000000) (r : List Val) (hr : okR r) (n : Int) (hn : i64 n) :
  ∃ o' : List Cnt, (m_zan [.l (b.map Cnt.e), .l (re r), .i n]).res = some (0, [.l (o'.map Cnt.e)]) ∧ o'.length ≤ b.length + 1 ∧ ∀ c ∈ o', c.ok := by
 obtain ⟨lb, o', h1, h2, h3⟩ := any_loop5 b hb hl r hr n hn b.length 0 false [] (by omega) (by omega) (by simp) (fun _ h => by cases h)
 simp only [Int.natCast_zero, List.map_nil] at h1
 cases lb with
 | true => exact ⟨o', by simp only [m_zan, h1, ok_some', out_some, res_test, res_stop, uB_s, uB_0, uL_s, uL_0, beq_self_eq_true, if_true, Bool.not_true, Bool.false_eq_true, if_false], h2, h3⟩
 | false =>
  have e1 : ((o'.map Cnt.e).length + 1) * 32 ≤ 140737488355328 := by rw [List.length_map]; simp at h2; omega
  by_cases hz : n = 0
  ·subst hz
   exact ⟨o', by simp only [m_zan, h1, ok_some', out_some, res_test, res_stop, uB_s, uB_0, uI_s, uI_0, uL_s, uL_0, beq_self_eq_true, if_true, Bool.not_false, bne_self_eq_false, Bool.false_eq_true, if_false], by simp at h2; omega, h3⟩
  ·have hz' : (n != 0) = true := by simpa using hz
   refine ⟨o' ++ [⟨r, n⟩], ?_, by simp at h2 ⊢; omega, fun c hc => (List.mem_append.1 hc).elim (h3 c) fun hc => by rw [List.mem_singleton] at hc; rw [hc]; exact ⟨hr, hn⟩⟩
   rw [map_app_e]
   simp only [m_zan, h1, ok_some', out_some, res_test, res_stop, uB_s, uB_0, uI_s, uI_0, uL_s, uL_0, beq_self_eq_true, if_true, Bool.not_false, hz', e1, decide_true]
   rfl

theorem BothAny (a b : List Cnt) (ha : okB a) (hb : okB b) (hl : a.length + b.length ≤ 4000000) : ∃ c : List Cnt, (m_zba [.l (a.map Cnt.e), .l (b.map Cnt.e)]).res = some (0, [.l (c.map Cnt.e)]) ∧ okB c ∧ c.length ≤ a.length + b.length := by
 have key : ∀ m i (o : List Cnt), b.length - i = m → i ≤ b.length → o.length ≤ a.length + i → (∀ c ∈ o, c.ok) →
   ∃ c : List Cnt, lres rd_zba_26_2 [.l (o.map Cnt.e), .l (b.map Cnt.e), .i (i : Nat)] = some (0, [.l (c.map Cnt.e)]) ∧ okB c ∧ c.length ≤ a.length + b.length := by
  intro m
  induction m with
  | zero =>
   intro i o h1 h2 h3 h4
   have : i = b.length := by omega
   subst this
   exact ⟨o, lres_stop (by simp [rd_zba_26_2]), ⟨by omega, h4⟩, h3⟩
  | succ m ih =>
   intro i o h1 h2 h3 h4
   have h : i < b.length := by omega
   have hm := hb.2 _ (List.getElem_mem h)
   obtain ⟨o', k1, k2, k3⟩ := AddAny o ⟨by omega, h4⟩ (by omega) b[i].row hm.1 b[i].n hm.2
   obtain ⟨c, q1, q2⟩ := ih (i + 1) o' (by omega) (by omega) (by omega) k3
   refine ⟨c, ?_, q2⟩
   rw [← q1]
   refine lres_next ?_
   simp only [rd_zba_26_2, rt_test, rt_next, rt_stop, el_map _ _ h, row_e, n_e, ln_map, inR_cast, Int.ofNat_lt, h, decide_true, if_true, k1, ok_some', out_some, uL_0, beq_self_eq_true, w64_succ (i := i) (by omega)]
 obtain ⟨c, h, hc⟩ := key b.length 0 a (by omega) (by omega) (by omega) ha.2
 simp only [Int.natCast_zero] at h
 exact ⟨c, by simp only [m_zba, h, ok_some', out_some, res_test, res_stop, uL_0, beq_self_eq_true, if_true], hc⟩

/-! what is touched -/

def touchB (pk : List Int) (D : List Cnt) (r : List Val) : Bool := D.any fun d => pickOk d.row pk && decide (pickR r pk = pickR d.row pk)
def tchB (pk : List Int) (D b : List Cnt) : List Cnt := b.filter fun c => pickOk c.row pk && touchB pk D c.row

theorem tch_okB {pk : List Int} {D b : List Cnt} (h : okB b) : okB (tchB pk D b) := ⟨Nat.le_trans (List.length_filter_le _ _) h.1, fun c hc => h.2 c (List.mem_filter.1 hc).1⟩
theorem tch_len (pk : List Int) (D b : List Cnt) : (tchB pk D b).length ≤ b.length := List.length_filter_le _ _

theorem lkB_put (es : List (List PV)) (s s' : ByteArray) : lkB (putM es s (pB true)) s' = (decide (s' = s) || lkB es s') := by
 unfold lkB
 rw [at_put]
 by_cases h : s' = s
 ·rw [if_pos h]; simp [h]; rfl
 ·rw [if_neg h]; simp [h]

section
variable (s0 s1 s2 : ByteArray) (i j : Int) (l8 : List (List PV)) (pk : List Int) (g : Bool) (l11 : List (List PV))

theorem gkey_res (r : List Val) (hp : pk.length ≤ 200) (ho : okR r) (hm : mayR r = true) :
  (m_zac [.s s0, .s s1, .s s2, .i i, .i j, .l l8, .l (pk.map kE), .b g, .l l11, .l (re r)]).res = some (0, [.s (bs (txtR (if pickOk r pk = true then pickR r pk else []))), .b (pickOk r pk)]) := by
 have h1 := Pick_res r pk (by omega)
 by_cases hk : pickOk r pk = true
 ·have h2 := rowText_res (pickR r pk) (pick_okT hm ho hk hp)
  rw [hk, if_pos rfl] at h1
  simp only [m_zac, h1, h2, hk, res_test, res_stop, ok_some', out_some, uB_0, uL_s, uL_0, uS_0, beq_self_eq_true, if_true]
 ·have hk' : pickOk r pk = false := by simpa using hk
  have h2 : (m_zy [.l []]).res = some (0, [.s (bs (txtR []))]) := rowText_res [] ⟨fun _ h => (by cases h), by simp, fun _ h => (by cases h)⟩
  rw [hk', if_neg (by simp)] at h1
  simp only [m_zac, h1, h2, hk', res_test, res_stop, ok_some', out_some, uB_0, uL_s, uL_0, uS_0, beq_self_eq_true, if_true, Bool.false_eq_true, if_false]

theorem touched_loop (D : List Cnt) (hD : okB D) (hm : mayB D = true) (h0 : D.length ≤ 1000000) (hp : pk.length ≤ 200) : ∀ m p (es : List (List PV)), D.length - p = m → p ≤ D.length → (∀ k, lkB es (bs k) = (D.take p).any (hasT pk k)) →
  ∃ es', lres rd_zad_57_3 [.l (D.map Cnt.e), .i (D.length : Nat), .i (p : Nat), .s s0, .s s1, .s s2, .i i, .i j, .l l8, .l (pk.map kE), .b g, .l l11, .l es] = some (0, [.l es']) ∧ ∀ k, lkB es' (bs k) = D.any (hasT pk k) := by
 intro m
 induction m with
 | zero =>
  intro p es hi hle he
  have : p = D.length := by omega
  subst this
  refine ⟨es, lres_stop (by simp [rd_zad_57_3]), fun k => ?_⟩
  rw [he, List.take_length]
 | succ m ih =>
  intro p es hi hle he
  have h : p < D.length := by omega
  have hc := hD.2 D[p] (List.getElem_mem h)
  have hmr := mayB_row hm (List.getElem_mem h)
  have h1 := gkey_res s0 s1 s2 i j l8 pk g l11 D[p].row hp hc.1 hmr
  have ht := take_cnt D h
  have row0 : cL D[p].e 0 = re D[p].row := rfl
  by_cases hk : pickOk D[p].row pk = true
  ·rw [hk, if_pos rfl] at h1
   obtain ⟨es', e1, e2⟩ := ih (p + 1) (putM es (bs (txtR (pickR D[p].row pk))) (pB true)) (by omega) (by omega) fun k => by
    rw [lkB_put, he, ht, List.any_append]
    simp only [List.any_cons, List.any_nil, Bool.or_false]
    by_cases e : bs k = bs (txtR (pickR D[p].row pk))
    ·have e' := bs_inj e
     have : hasT pk k D[p] = true := by simp [hasT, hk, e']
     rw [this]; simp [e]
    ·have : hasT pk k D[p] = false := by
      simp only [hasT, hk, Bool.true_and, decide_eq_false_iff_not]
      exact fun h4 => e (by rw [h4])
     rw [this]; simp [e]
   refine ⟨es', ?_, e2⟩
   rw [← e1]
   refine lres_next ?_
   simp only [rd_zad_57_3, rt_test, rt_next, el_map _ _ h, ln_map, inR_cast, Int.ofNat_lt, h, decide_true, if_true, row0, h1, ok_some', out_some, uB_s, uB_0, uS_0, beq_self_eq_true, w64_succ (i := p) (by omega)]
  ·have hk' : pickOk D[p].row pk = false := by simpa using hk
   rw [hk'] at h1
   obtain ⟨es', e1, e2⟩ := ih (p + 1) es (by omega) (by omega) fun k => by
    rw [he, ht, List.any_append]
    have : hasT pk k D[p] = false := by simp [hasT, hk']
    simp [this]
   refine ⟨es', ?_, e2⟩
   rw [← e1]
   refine lres_next ?_
   simp only [rd_zad_57_3, rt_test, rt_next, el_map _ _ h, ln_map, inR_cast, Int.ofNat_lt, h, decide_true, if_true, row0, h1, ok_some', out_some, uB_s, uB_0, Bool.false_eq_true, if_false, beq_self_eq_true, w64_succ (i := p) (by omega)]

theorem touched_res (D : List Cnt) (hD : okB D) (hm : mayB D = true) (h0 : D.length ≤ 1000000) (hp : pk.length ≤ 200) : ∃ es, (m_zad [.s s0, .s s1, .s s2, .i i, .i j, .l l8, .l (pk.map kE), .b g, .l l11, .l (D.map Cnt.e)]).res = some (0, [.l es]) ∧ ∀ k, lkB es (bs k) = D.any (hasT pk k) := by
 obtain ⟨es, h, he⟩ := touched_loop s0 s1 s2 i j l8 pk g l11 D hD hm h0 hp D.length 0 [] (by omega) (by omega) (fun _ => rfl)
 simp only [Int.natCast_zero] at h
 exact ⟨es, by simp only [m_zad, h, ln_map, res_test, res_stop, ok_some', out_some, uL_0, beq_self_eq_true, if_true], he⟩

theorem touch_text {D : List Cnt} (hm : mayB D = true) {r : List Val} (hr : r.all mayV = true) (hk : pickOk r pk = true) : D.any (hasT pk (txtR (pickR r pk))) = touchB pk D r := by
 unfold touchB
 rw [Bool.eq_iff_iff, List.any_eq_true, List.any_eq_true]
 refine ⟨fun ⟨d, hd, h⟩ => ⟨d, hd, ?_⟩, fun ⟨d, hd, h⟩ => ⟨d, hd, ?_⟩⟩
 ·unfold hasT at h
  rw [Bool.and_eq_true, decide_eq_true_eq] at h
  have := txtR_inj (pickR_may (mayR_all (mayB_row hm hd)) h.1) (pickR_may hr hk) h.2
  rw [h.1, this]; simp
 ·rw [Bool.and_eq_true, decide_eq_true_eq] at h
  unfold hasT
  rw [h.1, h.2]; simp

theorem of_loop (D : List Cnt) (hmD : mayB D = true) (es : List (List PV)) (hes : ∀ k, lkB es (bs k) = D.any (hasT pk k)) (B : List Cnt) (hB : okB B) (hm : mayB B = true) (h0 : B.length ≤ 1000000) (hp : pk.length ≤ 200) :
  lres rd_zag_58_3 [.l (B.map Cnt.e), .i (B.length : Nat), .i 0, .l es, .s s0, .s s1, .s s2, .i i, .i j, .l l8, .l (pk.map kE), .b g, .l l11, .l []] = some (0, [.l es, .l ((tchB pk D B).map Cnt.e)]) := by
 have h := loop_acc B.length (rd := rd_zag_58_3) (fun p => [.l (B.map Cnt.e), .i (B.length : Nat), .i (p : Nat), .l es, .s s0, .s s1, .s s2, .i i, .i j, .l l8, .l (pk.map kE), .b g, .l l11, .l ((tchB pk D (B.take p)).map Cnt.e)]) (some (0, [.l es, .l ((tchB pk D B).map Cnt.e)]))
  (lres_stop (by simp [rd_zag_58_3])) (by
  intro p h
  have row0 : cL B[p].e 0 = re B[p].row := rfl
  have row1 : cI B[p].e 1 = B[p].n := rfl
  have hc := hB.2 B[p] (List.getElem_mem h)
  have hmr := mayB_row hm (List.getElem_mem h)
  have h1 := gkey_res s0 s1 s2 i j l8 pk g l11 B[p].row hp hc.1 hmr
  have ht : tchB pk D (B.take (p + 1)) = tchB pk D (B.take p) ++ (if (pickOk B[p].row pk && touchB pk D B[p].row) = true then [B[p]] else []) := by
   rw [take_cnt B h]; unfold tchB; rw [List.filter_append]; simp [List.filter_cons]
  have hw : (((tchB pk D (B.take p)).map Cnt.e).length + 1) * 32 ≤ 140737488355328 := by
   have := tch_len pk D (B.take p)
   rw [List.length_take] at this
   rw [List.length_map]; omega
  by_cases c1 : pickOk B[p].row pk = true
  ·rw [c1, if_pos rfl] at h1
   have h2 : lkB es (bs (txtR (pickR B[p].row pk))) = touchB pk D B[p].row := by rw [hes, touch_text pk hmD (mayR_all hmr) c1]
   by_cases c2 : touchB pk D B[p].row = true
   ·have hO : (tchB pk D (B.take p)).map Cnt.e ++ [[PV.lst 39 (re B[p].row), pI B[p].n]] = (tchB pk D (B.take (p + 1))).map Cnt.e := by
     rw [ht, if_pos (by simp [c1, c2])]; simp [Cnt.e]
    simp only [rd_zag_58_3, rt_test, rt_next, rt_stop, el_map _ _ h, ln_map, inR_cast, Int.ofNat_lt, h, decide_true, if_true, row0, row1, h1, h2, c2, ok_some', out_some, uB_s, uB_0, uS_0, hw, hO, beq_self_eq_true, w64_succ (i := p) (by omega)]
   ·have c2' : touchB pk D B[p].row = false := by simpa using c2
    have hO : tchB pk D (B.take (p + 1)) = tchB pk D (B.take p) := by rw [ht, if_neg (by simp [c2']), List.append_nil]
    simp only [rd_zag_58_3, rt_test, rt_next, rt_stop, el_map _ _ h, ln_map, inR_cast, Int.ofNat_lt, h, decide_true, if_true, row0, row1, h1, h2, c2', ok_some', out_some, uB_s, uB_0, uS_0, hO, beq_self_eq_true, Bool.false_eq_true, if_false, w64_succ (i := p) (by omega)]
  ·have c1' : pickOk B[p].row pk = false := by simpa using c1
   rw [c1'] at h1
   have hO : tchB pk D (B.take (p + 1)) = tchB pk D (B.take p) := by rw [ht, if_neg (by simp [c1']), List.append_nil]
   simp only [rd_zag_58_3, rt_test, rt_next, rt_stop, el_map _ _ h, ln_map, inR_cast, Int.ofNat_lt, h, decide_true, if_true, row0, row1, h1, ok_some', out_some, uB_s, uB_0, hO, beq_self_eq_true, Bool.false_eq_true, if_false, w64_succ (i := p) (by omega)])
 exact h

/-! the document's -/

end

end Go.Proofs.YtkaljlpbmbfpgaaGreatDoor

set_option linter.unusedVariables false
set_option linter.unusedSimpArgs false
namespace Go.Proofs.YtkaljlpbmbfpgaaGreatDoor
open Go Go.Pu

theorem cmpR_app : ∀ {a b : List Val} (x y : List Val), a.length = b.length → cmpR a b < 0 → cmpR (a ++ x) (b ++ y) < 0
 | [], [], x, y, _, h => by exact absurd h (by decide)
 | [], _ :: _, _, _, h, _ => by simp at h
 | _ :: _, [], _, _, h, _ => by simp at h
 | u :: a, v :: b, x, y, hl, h => by
  have e1 : cmpR (u :: a) (v :: b) = Cmp.thn (cmpV u v) (cmpR a b) := rfl
  have e2 : cmpR (u :: a ++ x) (v :: b ++ y) = Cmp.thn (cmpV u v) (cmpR (a ++ x) (b ++ y)) := rfl
  rw [e1] at h
  rw [e2]
  unfold Cmp.thn at h ⊢
  by_cases hz : (cmpV u v != 0) = true
  ·rw [if_pos hz] at h ⊢; exact h
  ·rw [if_neg hz] at h ⊢
   exact cmpR_app x y (by simpa using hl) h

theorem groupV_may {pk : List Int} {ag : List Ag} {b : List Cnt} : mayB (groupV pk true ag b).1 = true := by
 by_cases hn : (groupV pk true ag b).1 = []
 ·rw [hn]; exact mayB_nil
 ·obtain ⟨c0, hc0⟩ := List.exists_mem_of_ne_nil _ hn
  obtain ⟨hr, h40, h0, _⟩ := groupV_row rfl hc0
  have hm := (rightB_iff.1 hr).1
  rw [mayB_iff]
  constructor
  ·have he : groupV pk true ag b = groupF pk ag b (keysB pk b) := by
    unfold groupV
    rw [if_neg (by simp [hr]), if_neg (by simp), if_neg (by omega)]
   rw [he] at h0 ⊢
   rw [groupF_eq h0]
   unfold rising
   rw [List.pairwise_map]
   have hk := keys_nodup pk b
   refine hk.imp_of_mem fun {x y} hx hy h => ?_
   obtain ⟨_, _, _, _, l1, _⟩ := key_of hx
   obtain ⟨_, _, _, _, l2, _⟩ := key_of hy
   exact cmpR_app _ _ (by rw [l1, l2]) h
  ·intro c hc
   obtain ⟨_, _, _, k, hk, ha, rfl⟩ := groupV_row rfl hc
   obtain ⟨x, hx, _, e2, l1, _⟩ := key_of hk
   obtain ⟨d, hd, hdk⟩ := List.mem_map.1 hk
   have hmk := mayB_row (pickV_may pk b) hd
   rw [hdk] at hmk
   refine goodC_iff.2 ⟨show (1 : Int) ≠ 0 by decide, show fitsN 1 = true by decide, ?_⟩
   unfold mayR
   rw [Bool.and_eq_true, decide_eq_true_eq, List.all_append, Bool.and_eq_true]
   refine ⟨?_, mayR_all hmk, ?_⟩
   ·rw [List.length_append, aggsV_len ha]; omega
   ·rw [List.all_eq_true]
    intro v hv
    obtain ⟨a, _, _, rfl⟩ := aggsV_mem v hv
    exact aggV_may (may_filter hm) _ _

theorem groupV_n {pk : List Int} {ag : List Ag} {b : List Cnt} : ∀ c ∈ (groupV pk true ag b).1, c.n = 1 := fun c hc => by
 obtain ⟨_, _, _, k, _, _, rfl⟩ := groupV_row rfl hc
 rfl

def regroupV (pk : List Int) (g : Bool) (ag : List Ag) (A D : List Cnt) : List Cnt × Int :=
 if mayB A = true ∧ mayB D = true ∧ mayB (sumB (A ++ D)) = true then
  if g = false then (pickV pk D, 0)
  else if (groupV pk true ag (tchB pk D (sumB (A ++ D)))).2 ≠ 0 then ([], (groupV pk true ag (tchB pk D (sumB (A ++ D)))).2)
  else if (groupV pk true ag (tchB pk D A)).2 ≠ 0 then ([], (groupV pk true ag (tchB pk D A)).2)
  else (sumB ((groupV pk true ag (tchB pk D (sumB (A ++ D)))).1 ++ negB (groupV pk true ag (tchB pk D A)).1), 0)
 else ([], 1)

theorem neg_okB {b : List Cnt} (h : mayB b = true) (ho : okB b) : okB (negB b) := by
 refine ⟨by unfold negB; rw [List.length_map]; exact ho.1, fun c hc => ?_⟩
 obtain ⟨d, hd, rfl⟩ := List.mem_map.1 hc
 have := mayB_n h hd
 exact ⟨(ho.2 d hd).1, by unfold i64; show -9223372036854775808 ≤ -d.n ∧ -d.n < 9223372036854775808; omega⟩

theorem absN_one' {b : List Cnt} (h : ∀ c ∈ b, c.n = 1) : absN b ≤ b.length := by
 have := absN_le (b := b) (m := 1) fun c hc => by rw [h c hc]; decide
 omega

theorem absN_neg : ∀ (b : List Cnt), absN (negB b) = absN b
 | [] => rfl
 | c :: b => by
  have e : negB (c :: b) = negC c :: negB b := rfl
  rw [e]
  show (negC c).n.natAbs + absN (negB b) = c.n.natAbs + absN b
  rw [absN_neg b]
  show (-c.n).natAbs + _ = _
  rw [Int.natAbs_neg]

theorem turn_may {b : List Cnt} (h : mayB b = true) : turnB b = negB b := by unfold turnB; rw [if_pos h]

theorem plus_two {X Y : List Cnt} (hX : mayB X = true) (hY : mayB Y = true) (lX : absN X ≤ 400000000) (lY : absN Y ≤ 400000000) : plusB [X, Y] = sumB (X ++ Y) ∧ mayB (sumB (X ++ Y)) = true := by
 have h := plusB_ok (ls := [X, Y]) (fun b hb => by
  simp only [List.mem_cons, List.mem_nil_iff, or_false] at hb
  rcases hb with rfl | rfl
  ·exact hX
  ·exact hY) fun r => by
   have := cnt_abs [X, Y].flatten r
   have e : absN [X, Y].flatten = absN X + absN Y := by
    rw [show [X, Y].flatten = X ++ Y by simp, absN_app]
   omega
 rw [show [X, Y].flatten = X ++ Y by simp] at h
 exact h

section
variable (n0 n1 w : List UInt8) (i j : Int) (l5 : List (List PV)) (pk : List Int) (g : Bool) (ag : List Ag)

theorem changed {A D : List Cnt} (hA : okB A) (hp : pk.length ≤ 200) (lA : A.length ≤ 300000) (lD : D.length ≤ 300000) {T : List Cnt} (hT : okB T) (lT : T.length ≤ 600000) :
  okB (groupV pk true ag (tchB pk D T)).1 ∧ (groupV pk true ag (tchB pk D T)).1.length ≤ 600000 ∧ okB (groupV pk true ag (tchB pk D A)).1 ∧ (groupV pk true ag (tchB pk D A)).1.length ≤ 300000 ∧
  absN (groupV pk true ag (tchB pk D T)).1 ≤ 600000 ∧ absN (groupV pk true ag (tchB pk D A)).1 ≤ 300000 := by
 have t1 := tch_len pk D T
 have t2 := tch_len pk D A
 obtain ⟨a1, a2⟩ := groupV_okB (pk := pk) (g := true) (ag := ag) (tch_okB (pk := pk) (D := D) hT) (by omega) (by omega)
 obtain ⟨b1, b2⟩ := groupV_okB (pk := pk) (g := true) (ag := ag) (tch_okB (pk := pk) (D := D) hA) (by omega) (by omega)
 have c1 := absN_one' (groupV_n (pk := pk) (ag := ag) (b := tchB pk D T))
 have c2 := absN_one' (groupV_n (pk := pk) (ag := ag) (b := tchB pk D A))
 exact ⟨a1, by omega, b1, by omega, by omega, by omega⟩

theorem GReg_res (hp : pk.length ≤ 200) (hag : ag.length ≤ 1000000) (A D : List Cnt) (hA : okB A) (hD : okB D) (lA : A.length ≤ 300000) (lD : D.length ≤ 300000) :
  (m_zag [.s (bs n0), .s (bs n1), .s (bs w), .i i, .i j, .l l5, .l (pk.map kE), .b g, .l (ag.map Ag.e), .l (A.map Cnt.e), .l (D.map Cnt.e)]).res = some (0, [.i (regroupV pk g ag A D).2, .l ((regroupV pk g ag A D).1.map Cnt.e)]) := by
 have h1 := bag_May_res A hA
 have h2 := bag_May_res D hD
 unfold regroupV
 cases mA : mayB A with
 | false =>
  rw [mA] at h1
  simp only [m_zag, h1, res_test, res_stop, ok_some', out_some, uB_0, beq_self_eq_true, if_true, Bool.not_false, Bool.false_eq_true, false_and, if_false, List.map_nil]
 | true =>
  rw [mA] at h1
  cases mD : mayB D with
  | false =>
   rw [mD] at h2
   simp only [m_zag, h1, h2, res_test, res_stop, ok_some', out_some, uB_0, beq_self_eq_true, if_true, Bool.not_true, Bool.not_false, Bool.false_eq_true, false_and, and_false, if_false, List.map_nil]
  | true =>
   rw [mD] at h2
   have aA := may_abs9 mA (by omega)
   have aD := may_abs9 mD (by omega)
   have oS : okB (A ++ D) := ⟨by rw [List.length_append]; omega, fun c hc => (List.mem_append.1 hc).elim (hA.2 c) (hD.2 c)⟩
   have aS : absN (A ++ D) ≤ 4611686018427387904 := by rw [absN_app]; omega
   have h3 := Sum_res (A ++ D) oS aS
   rw [map_app_e] at h3
   have oT := sumB_okB oS aS
   have lT := sumB_len (A ++ D)
   rw [List.length_append] at lT
   have h4 := bag_May_res _ oT
   have w1 : (0 + (A.map Cnt.e).length) * 32 ≤ 140737488355328 := by rw [List.length_map]; omega
   have w2 : ((A.map Cnt.e).length + (D.map Cnt.e).length) * 32 ≤ 140737488355328 := by rw [List.length_map, List.length_map]; omega
   generalize hT : sumB (A ++ D) = T at *
   cases mT : mayB T with
   | false =>
    rw [mT] at h4
    simp only [m_zag, h1, h2, h3, h4, w1, w2, res_test, res_stop, ok_some', out_some, uB_0, uL_0, decide_true, beq_self_eq_true, if_true, Bool.not_true, Bool.not_false, Bool.false_eq_true, and_false, if_false, List.map_nil]
   | true =>
    rw [mT] at h4
    rw [if_pos ⟨rfl, rfl, rfl⟩]
    cases g with
    | false =>
     have h5 := PickB_res n0 n1 w i j l5 pk (by omega) false (ag.map Ag.e) D hD (by omega)
     rw [if_pos rfl]
     simp only [m_zag, h1, h2, h3, h4, h5, w1, w2, res_test, res_stop, ok_some', out_some, uB_0, uL_0, decide_true, beq_self_eq_true, if_true, Bool.not_true, Bool.not_false, Bool.false_eq_true, if_false]
    | true =>
     rw [if_neg (by simp)]
     obtain ⟨es, h5, hes⟩ := touched_res (bs n0) (bs n1) (bs w) i j l5 pk true (ag.map Ag.e) D hD mD (by omega) hp
     have h6 := of_loop (bs n0) (bs n1) (bs w) i j l5 pk true (ag.map Ag.e) D mD es hes T oT mT (by omega) hp
     have h7 := of_loop (bs n0) (bs n1) (bs w) i j l5 pk true (ag.map Ag.e) D mD es hes A hA mA (by omega) hp
     have t1 := tch_len pk D T
     have t2 := tch_len pk D A
     have h8 := GRows_res i j l5 pk true n0 n1 w ag hag hp (tchB pk D T) (tch_okB oT) (by omega)
     have h9 := GRows_res i j l5 pk true n0 n1 w ag hag hp (tchB pk D A) (tch_okB hA) (by omega)
     obtain ⟨q1, q2, q3, q4, q5, q6⟩ := changed pk ag hA hp lA lD oT (by omega : T.length ≤ 600000)
     have m1 := groupV_may (pk := pk) (ag := ag) (b := tchB pk D T)
     have m2 := groupV_may (pk := pk) (ag := ag) (b := tchB pk D A)
     generalize groupV pk true ag (tchB pk D T) = N at *
     generalize groupV pk true ag (tchB pk D A) = W at *
     by_cases e1 : N.2 = 0
     ·have e1' : (N.2 != 0) = false := by simpa using e1
      rw [if_neg (by simp [e1])]
      by_cases e2 : W.2 = 0
      ·have e2' : (W.2 != 0) = false := by simpa using e2
       rw [if_neg (by simp [e2])]
       have h10 := bag_Neg_res W.1 (by omega) q3
       rw [turn_may m2] at h10
       have h11 := bag_Plus_res [N.1, negB W.1] (by simp) (by simp [negB]; omega) (fun b hb => by
        simp only [List.mem_cons, List.mem_nil_iff, or_false] at hb
        rcases hb with rfl | rfl
        ·exact q1
        ·exact neg_okB m2 q3)
       rw [(plus_two m1 (neg_may m2) (by omega) (by rw [absN_neg]; omega)).1] at h11
       have hbe : [N.1, negB W.1].map beE = [[PV.lst 49 (N.1.map Cnt.e)], [PV.lst 49 ((negB W.1).map Cnt.e)]] := rfl
       rw [hbe] at h11
       simp only [m_zag, h1, h2, h3, h4, h5, h6, h7, h8, h9, h10, h11, e1', e2', w1, w2, ln_map, res_test, res_stop, ok_some', out_some, uB_0, uL_0, uL_s, uI_0, decide_true, beq_self_eq_true, if_true, Bool.not_true, Bool.false_eq_true, if_false]
      ·have e2' : (W.2 != 0) = true := by simpa using e2
       rw [if_pos e2]
       simp only [m_zag, h1, h2, h3, h4, h5, h6, h7, h8, h9, e1', e2', w1, w2, ln_map, res_test, res_stop, ok_some', out_some, uB_0, uL_0, uL_s, uI_0, decide_true, beq_self_eq_true, if_true, Bool.not_true, Bool.false_eq_true, if_false, List.map_nil]
     ·have e1' : (N.2 != 0) = true := by simpa using e1
      rw [if_pos e1]
      simp only [m_zag, h1, h2, h3, h4, h5, h6, h8, e1', w1, w2, ln_map, res_test, res_stop, ok_some', out_some, uB_0, uL_0, uL_s, uI_0, decide_true, beq_self_eq_true, if_true, Bool.not_true, Bool.false_eq_true, if_false, List.map_nil]

/-! what the document fixes -/

def twoB (a b n : Int) : List Cnt := [⟨[⟨2, a, []⟩, ⟨2, b, []⟩], n⟩]

theorem rfixed_res : (m_zby []).res = some (0, [.b true]) := by
 have o5 : okB (twoB 1 5 1) := okB_dec (by kernel_rfl)
 have o7 : okB (twoB 1 7 1) := okB_dec (by kernel_rfl)
 have o7m : okB (twoB 1 7 (-1)) := okB_dec (by kernel_rfl)
 have o5m : okB (twoB 1 5 (-1)) := okB_dec (by kernel_rfl)
 have o5n : okB (twoB 1 5 (-2)) := okB_dec (by kernel_rfl)
 have tw : ∀ a b n, (twoB a b n).map Cnt.e = [[PV.lst 39 [[pI 2, pI a, pS (bs [])], [pI 2, pI b, pS (bs [])]], pI n]] := fun _ _ _ => rfl
 have hag : ([⟨3, 1⟩] : List Ag).map Ag.e = [[pI 3, pI 1]] := rfl
 have hag0 : ([] : List Ag).map Ag.e = [] := rfl
 have hpk : ([0] : List Int).map kE = [[pI 0]] := rfl
 have hpk1 : ([1] : List Int).map kE = [[pI 1]] := rfl
 have h0 := Both_res (twoB 1 5 1) (twoB 1 7 1) o5 o7 (mayC (by kernel_rfl)) (by decide) (by decide)
 have e0 : sumB (twoB 1 5 1 ++ twoB 1 7 1) = twoB 1 5 1 ++ twoB 1 7 1 := by kernel_rfl
 rw [e0, tw, tw] at h0
 have h1 := GReg_res [] [] [] 0 0 [] [0] true [⟨3, 1⟩] (by decide) (by decide) (twoB 1 5 1 ++ twoB 1 7 1) (twoB 1 7 (-1)) (okB_dec (by kernel_rfl)) o7m (by decide) (by decide)
 have e1 : regroupV [0] true [⟨3, 1⟩] (twoB 1 5 1 ++ twoB 1 7 1) (twoB 1 7 (-1)) = (twoB 1 5 1 ++ twoB 1 7 (-1), 0) := by kernel_rfl
 rw [e1, hag, hpk, tw 1 7 (-1)] at h1
 have h2 := GReg_res [] [] [] 0 0 [] [0] true [⟨3, 1⟩] (by decide) (by decide) (twoB 1 5 1) (twoB 1 5 (-1)) o5 o5m (by decide) (by decide)
 have e2 : regroupV [0] true [⟨3, 1⟩] (twoB 1 5 1) (twoB 1 5 (-1)) = (twoB 1 5 (-1), 0) := by kernel_rfl
 rw [e2, hag, hpk, tw, tw] at h2
 have h3 := GReg_res [] [] [] 0 0 [] [0] true [⟨3, 1⟩] (by decide) (by decide) (twoB 1 5 1) (twoB 1 5 (-2)) o5 o5n (by decide) (by decide)
 have e3 : regroupV [0] true [⟨3, 1⟩] (twoB 1 5 1) (twoB 1 5 (-2)) = ([], 1) := by kernel_rfl
 rw [e3, hag, hpk, tw, tw] at h3
 have h4 := GReg_res [] [] [] 0 0 [] [1] false [] (by decide) (by decide) [] (twoB 1 7 (-1)) nil_okB o7m (by decide) (by decide)
 have e4 : regroupV [1] false [] [] (twoB 1 7 (-1)) = ([⟨[⟨2, 7, []⟩], -1⟩], 0) := by kernel_rfl
 rw [e4, hag0, hpk1, tw] at h4
 have t1 := RbagText_res (twoB 1 5 1 ++ twoB 1 7 (-1)) (okB_dec (by kernel_rfl)) (by decide)
 have x1 : (if mayB (twoB 1 5 1 ++ twoB 1 7 (-1)) = true then txtB (twoB 1 5 1 ++ twoB 1 7 (-1)) else []) = [40, 49, 44, 32, 53, 41, 32, 40, 49, 44, 32, 55, 41, 42, 45, 49] := by kernel_rfl
 rw [x1] at t1
 have t2 := RbagText_res (twoB 1 5 (-1)) o5m (by decide)
 have x2 : (if mayB (twoB 1 5 (-1)) = true then txtB (twoB 1 5 (-1)) else []) = [40, 49, 44, 32, 53, 41, 42, 45, 49] := by kernel_rfl
 rw [x2, tw] at t2
 have t3 := RbagText_res [⟨[⟨2, 7, []⟩], -1⟩] (okB_dec (by kernel_rfl)) (by decide)
 have x3 : (if mayB [⟨[⟨2, 7, []⟩], -1⟩] = true then txtB [⟨[⟨2, 7, []⟩], -1⟩] else []) = [40, 55, 41, 42, 45, 49] := by kernel_rfl
 rw [x3] at t3
 simp only [List.map_nil] at h4
 simp only [m_zby, bs_nil, h0, h1, h2, h3, h4, t1, t2, t3, res_test, res_stop, ok_some', out_some, uL_0, uL_s, uI_0, uS_0, bs_toList, beq_self_eq_true, if_true]

theorem lsmall_res (A D : List Cnt) (hA : okB A) (hD : okB D) (hpk : pk.length ≤ 140737488355328) (hag : ag.length ≤ 140737488355328) :
  (m_zbs [.s (bs n0), .s (bs n1), .s (bs w), .i i, .i j, .l l5, .l (pk.map kE), .b g, .l (ag.map Ag.e), .l (A.map Cnt.e), .l (D.map Cnt.e)]).res = some (0, [.b (lowS A && (lowS D && (decide (pk.length ≤ 30) && decide (ag.length ≤ 30))))]) := by
 have h1 := Low_res A hA
 have h2 := Low_res D hD
 cases sA : lowS A with
 | false =>
  rw [sA] at h1
  simp only [m_zbs, h1, res_test, res_stop, ok_some', out_some, uB_0, beq_self_eq_true, if_true, Bool.false_eq_true, if_false, Bool.false_and]
 | true =>
  rw [sA] at h1
  cases sD : lowS D with
  | false =>
   rw [sD] at h2
   simp only [m_zbs, h1, h2, res_test, res_stop, ok_some', out_some, uB_0, beq_self_eq_true, if_true, Bool.false_eq_true, if_false, Bool.false_and, Bool.true_and]
  | true =>
   rw [sD] at h2
   by_cases c1 : pk.length ≤ 30
   ·have c1' : (pk.length : Int) ≤ 30 := by omega
    have c2 : decide ((ag.length : Int) ≤ 30) = decide (ag.length ≤ 30) := by rw [decide_eq_decide]; omega
    simp only [m_zbs, h1, h2, c1, c1', c2, ln_map, res_test, res_stop, ok_some', out_some, uB_0, decide_true, beq_self_eq_true, if_true, Bool.true_and]
   ·have c1' : ¬ (pk.length : Int) ≤ 30 := by omega
    simp only [m_zbs, h1, h2, c1, c1', ln_map, res_test, res_stop, ok_some', out_some, uB_0, decide_false, beq_self_eq_true, if_true, Bool.false_eq_true, if_false, Bool.false_and, Bool.true_and]

end

end Go.Proofs.YtkaljlpbmbfpgaaGreatDoor

set_option linter.unusedVariables false
set_option linter.unusedSimpArgs false
namespace Go.Proofs.YtkaljlpbmbfpgaaGreatDoor
open Go Go.Pu

/-! what is chosen -/

/-- what stands ahead, by a sign -/
def ahead (s : Int) (v w : Val) : Prop := s * cmpV v w ≤ 0

section
variable (n0 n1 w : List UInt8) (i j : Int) (l5 : List (List PV)) (pk : List Int)

end

/-! parts -/

end Go.Proofs.YtkaljlpbmbfpgaaGreatDoor

set_option linter.unusedVariables false
set_option linter.unusedSimpArgs false
namespace Go.Proofs.YtkaljlpbmbfpgaaGreatDoor
open Go Go.Pu

/-! each row is in just one group -/

section
variable (s5 s6 s7 : ByteArray) (i j : Int) (l10 : List (List PV)) (pk : List Int)

end

end Go.Proofs.YtkaljlpbmbfpgaaGreatDoor

set_option linter.unusedVariables false
set_option linter.unusedSimpArgs false
namespace Go.Proofs.YtkaljlpbmbfpgaaGreatDoor
open Go Go.Pu

/-! keys that are touched -/

/-! the laws -/

theorem small4 {A D : List Cnt} {m n : Nat} (h : (lowS A && (lowS D && (decide (m ≤ 30) && decide (n ≤ 30)))) = true) : lowS A = true ∧ lowS D = true ∧ m ≤ 30 ∧ n ≤ 30 := by
 simp only [Bool.and_eq_true, decide_eq_true_eq] at h
 exact ⟨h.1, h.2.1, h.2.2.1, h.2.2.2⟩

section
variable (n0 n1 w : List UInt8) (i j : Int) (l5 : List (List PV)) (pk : List Int) (hpk : pk.length ≤ 140737488355328) (g : Bool) (ag : List Ag) (hag : ag.length ≤ 140737488355328) (A D : List Cnt) (hA : okB A) (hD : okB D)
include hpk hag hA hD

end

end Go.Proofs.YtkaljlpbmbfpgaaGreatDoor

set_option linter.unusedVariables false
set_option linter.unusedSimpArgs false
namespace Go.Proofs.YtkaljlpbmbfpgaaGreatDoor
open Go Go.Pu

/-- the one row of a count -/
def cntC (n : Int) : List Cnt := if 0 < n then [⟨[⟨2, n, []⟩], 1⟩] else []

theorem tch_nil (D b : List Cnt) : tchB [] D b = if D = [] then [] else b := by
 unfold tchB
 by_cases h : D = []
 ·subst h
  rw [if_pos rfl, List.filter_eq_nil_iff]
  intro c _
  simp [touchB]
 ·rw [if_neg h, List.filter_eq_self]
  intro c _
  obtain ⟨d, D', rfl⟩ := List.exists_cons_of_ne_nil h
  have e1 : pickOk c.row [] = true := rfl
  have e2 : (pickOk d.row [] && decide (pickR c.row [] = pickR d.row [])) = true := rfl
  unfold touchB
  rw [e1, List.any_cons, e2]
  rfl

theorem right_sum {b : List Cnt} (hr : rightB b = 0) : 0 < sumN b ↔ b ≠ [] := by
 constructor
 ·rintro h rfl
  exact absurd h (by decide)
 ·intro h
  obtain ⟨c, b', rfl⟩ := List.exists_cons_of_ne_nil h
  have h3 := right_pos hr c (List.mem_cons_self ..)
  have h4 := sumN_nn (l := b') fun d hd => by have := right_pos hr d (List.mem_cons_of_mem _ hd); omega
  rw [sumN_cons]
  omega

theorem group_cnt {b : List Cnt} (hr : rightB b = 0) : groupV [] true [⟨0, 0⟩] b = (cntC (sumN b), 0) := by
 rw [groupV_one hr _ (by simp)]
 have ha : aggsV b [⟨0, 0⟩] = ([⟨2, sumN b, []⟩], 0) := by
  rw [aggsV_good (by rfl) (by simp [aggsV])]
  rfl
 rw [ha]
 by_cases h : b = []
 ·subst h; rfl
 ·rw [if_neg h, if_neg (by simp)]
  unfold cntC
  rw [if_pos ((right_sum hr).2 h)]

theorem regroup_cnt {A D : List Cnt} (mA : mayB A = true) (mD : mayB D = true) (mT : mayB (sumB (A ++ D)) = true) (rA : rightB A = 0) (rT : rightB (sumB (A ++ D)) = 0) :
  regroupV [] true [⟨0, 0⟩] A D = (sumB (cntC (sumN (sumB (A ++ D))) ++ negB (cntC (sumN A))), 0) := by
 unfold regroupV
 rw [if_pos ⟨mA, mD, mT⟩, if_neg (by simp), tch_nil, tch_nil]
 by_cases h : D = []
 ·subst h
  rw [if_pos rfl, if_pos rfl]
  have e0 : groupV [] true [⟨0, 0⟩] [] = ([], 0) := by kernel_rfl
  rw [e0, if_neg (by simp), if_neg (by simp)]
  have e1 : sumB (A ++ []) = A := by
   rw [List.append_nil]
   exact (sumB_eq (mayC mA) fun _ => rfl).symm
  rw [e1]
  refine Prod.ext ?_ rfl
  refine canon_ext (sumB_canon _) (sumB_canon _) fun r => ?_
  rw [sumB_cnt, sumB_cnt, cnt_app, cnt_app, cnt_neg, cnt_neg]
  simp only [cnt_nil]
  omega
 ·rw [if_neg h, if_neg h, group_cnt rT, group_cnt rA, if_neg (by simp), if_neg (by simp)]

/-- what the document wants -/
def wantC (l t : Int) : List Cnt :=
 if 0 < t then addC (if 0 < l then addC [] [⟨2, l, []⟩] (-1) else []) [⟨2, t, []⟩] 1 else if 0 < l then addC [] [⟨2, l, []⟩] (-1) else []

theorem want_eq (l t : Int) : wantC l t = sumB (cntC t ++ negB (cntC l)) := by
 have cl : canon (if 0 < l then addC [] [⟨2, l, []⟩] (-1) else []) := by
  split
  ·exact addC_canon _ _ canon_nil
  ·exact canon_nil
 have kl : ∀ r, cnt (if 0 < l then addC [] [⟨2, l, []⟩] (-1) else []) r = -cnt (cntC l) r := fun r => by
  unfold cntC
  by_cases hl : 0 < l
  ·rw [if_pos hl, if_pos hl, addC_cnt, cnt_cons]
   simp only [cnt_nil]
   split <;> omega
  ·rw [if_neg hl, if_neg hl]
   rfl
 unfold wantC
 by_cases ht : 0 < t
 ·rw [if_pos ht]
  refine canon_ext (addC_canon _ _ cl) (sumB_canon _) fun r => ?_
  rw [addC_cnt, kl, sumB_cnt, cnt_app, cnt_neg]
  have : cnt (cntC t) r = if [(⟨2, t, []⟩ : Val)] = r then 1 else 0 := by
   unfold cntC
   rw [if_pos ht, cnt_cons]
   simp only [cnt_nil]
   omega
  rw [this]
  omega
 ·rw [if_neg ht]
  refine canon_ext cl (sumB_canon _) fun r => ?_
  rw [kl, sumB_cnt, cnt_app, cnt_neg]
  have : cnt (cntC t) r = 0 := by
   unfold cntC
   rw [if_neg ht]
   rfl
  omega

theorem cntC_okB {n : Int} (h : i64 n) : okB (cntC n) := by
 unfold cntC
 split
 ·refine ⟨by simp, fun c hc => ?_⟩
  rw [List.mem_singleton] at hc
  subst hc
  refine ⟨⟨by simp, fun v hv => ?_⟩, show i64 1 by unfold i64; decide⟩
  rw [List.mem_singleton] at hv
  subst hv
  exact two_ok h
 ·exact nil_okB

theorem cntC_len (n : Int) : (cntC n).length ≤ 1 ∧ absN (cntC n) ≤ 1 ∧ mayB (cntC n) = true := by
 unfold cntC
 split
 ·refine ⟨by simp, by show (1 : Int).natAbs + 0 ≤ 1; decide, ?_⟩
  rw [mayB_iff]
  refine ⟨by unfold rising; simp, fun c hc => ?_⟩
  rw [List.mem_singleton] at hc
  subst hc
  refine goodC_iff.2 ⟨show (1 : Int) ≠ 0 by decide, show fitsN 1 = true by decide, ?_⟩
  simp [mayR, mayV]
 ·exact ⟨by simp, by show (0 : Nat) ≤ 1; decide, mayB_nil⟩

theorem want_okB {l t : Int} (hl : i64 l) (ht : i64 t) : okB (wantC l t) := by
 rw [want_eq]
 obtain ⟨l1, l2, l3⟩ := cntC_len l
 obtain ⟨t1, t2, _⟩ := cntC_len t
 have ol := neg_okB l3 (cntC_okB hl)
 have ot := cntC_okB ht
 have ln : (negB (cntC l)).length ≤ 1 := by unfold negB; rw [List.length_map]; exact l1
 exact sumB_okB ⟨by rw [List.length_append]; omega, fun c hc => (List.mem_append.1 hc).elim (ot.2 c) (ol.2 c)⟩ (by rw [absN_app, absN_neg]; omega)

/-! the two loops -/

theorem cnt_loop7 (A : List Cnt) (h0 : A.length ≤ 1000000) (hn : absN A ≤ 1000000000) (v1 v2 : List (List PV)) (v4 : Int) (v6 v7 v8 : ByteArray) (v9 v10 : Int) (v11 : Bool) (v12 : List (List PV)) : ∀ m i, A.length - i = m → i ≤ A.length →
  lres rd_zci_12_7 [.l (A.map Cnt.e), .l v1, .l v2, .i (sumN (A.take i)), .i v4, .i (i : Nat), .s v6, .s v7, .s v8, .i v9, .i v10, .b v11, .l v12] = some (0, [.l (A.map Cnt.e), .l v1, .l v2, .i (sumN A), .i v4, .s v6, .s v7, .s v8, .i v9, .i v10, .b v11, .l v12]) := by
 intro m
 induction m with
 | zero =>
  intro i h1 h2
  have : i = A.length := by omega
  subst this
  rw [List.take_length]
  exact lres_stop (by simp [rd_zci_12_7])
 | succ m ih =>
  intro i h1 h2
  have h : i < A.length := by omega
  have hs := sumN_take' A h
  have ha := sumN_abs' (A.take (i + 1))
  have hb : absN (A.take (i + 1)) ≤ absN A := by
   conv => rhs; rw [← List.take_append_drop (i + 1) A, absN_app]
   omega
  have hw : w64 (sumN (A.take i) + A[i].n) = sumN (A.take (i + 1)) := by
   rw [← hs]
   exact w64_eq (by omega) (by omega)
  rw [← ih (i + 1) (by omega) (by omega)]
  refine lres_next ?_
  simp only [rd_zci_12_7, rt_test, rt_next, el_map _ _ h, n_e, ln_map, inR_cast, Int.ofNat_lt, h, decide_true, if_true, hw, w64_succ (i := i) (by omega)]

theorem cnt_loop11 (T : List Cnt) (h0 : T.length ≤ 1000000) (hn : absN T ≤ 1000000000) (v0 v1 : List (List PV)) (v3 : Int) (v6 v7 v8 : ByteArray) (v9 v10 : Int) (v11 : Bool) (v12 : List (List PV)) : ∀ m i, T.length - i = m → i ≤ T.length →
  lres rd_zci_12_11 [.l v0, .l v1, .l (T.map Cnt.e), .i v3, .i (sumN (T.take i)), .i (i : Nat), .s v6, .s v7, .s v8, .i v9, .i v10, .b v11, .l v12] = some (0, [.l v0, .l v1, .i v3, .i (sumN T), .s v6, .s v7, .s v8, .i v9, .i v10, .b v11, .l v12]) := by
 intro m
 induction m with
 | zero =>
  intro i h1 h2
  have : i = T.length := by omega
  subst this
  rw [List.take_length]
  exact lres_stop (by simp [rd_zci_12_11])
 | succ m ih =>
  intro i h1 h2
  have h : i < T.length := by omega
  have hs := sumN_take' T h
  have ha := sumN_abs' (T.take (i + 1))
  have hb : absN (T.take (i + 1)) ≤ absN T := by
   conv => rhs; rw [← List.take_append_drop (i + 1) T, absN_app]
   omega
  have hw : w64 (sumN (T.take i) + T[i].n) = sumN (T.take (i + 1)) := by
   rw [← hs]
   exact w64_eq (by omega) (by omega)
  rw [← ih (i + 1) (by omega) (by omega)]
  refine lres_next ?_
  simp only [rd_zci_12_11, rt_test, rt_next, el_map _ _ h, n_e, ln_map, inR_cast, Int.ofNat_lt, h, decide_true, if_true, hw, w64_succ (i := i) (by omega)]

/-! the law -/

theorem regroupCount_res (A D : List Cnt) (hA : okB A) (hD : okB D) (lA : A.length ≤ 1048576) (lD : D.length ≤ 1048576) :
  (m_zci [.l (A.map Cnt.e), .l (D.map Cnt.e)]).res = some (0, [.b true]) := by
 have hf := rfixed_res
 obtain ⟨T0, hb0, _, _⟩ := BothAny A D hA hD (by omega)
 have h0 := lsmall_res [] [] [] 0 0 [] [] true [⟨0, 0⟩] A D hA hD (by simp) (by simp)
 have h0 : (m_zbs [.s { data := #[] }, .s { data := #[] }, .s { data := #[] }, .i 0, .i 0, .l [], .l [], .b true, .l [[pI 0, pI 0]], .l (A.map Cnt.e), .l (D.map Cnt.e)]).res = some (0, [.b (lowS A && (lowS D && (decide (([] : List Int).length ≤ 30) && decide (([⟨0, 0⟩] : List Ag).length ≤ 30))))]) := h0
 by_cases hs : (lowS A && (lowS D && (decide (([] : List Int).length ≤ 30) && decide (([⟨0, 0⟩] : List Ag).length ≤ 30)))) = true
 ·obtain ⟨sA, sD, _, _⟩ := small4 hs
  rw [hs] at h0
  obtain ⟨a1, a2, a3⟩ := lowS_of sA
  obtain ⟨d1, d2, d3⟩ := lowS_of sD
  have r1 := R05_May_res A hA
  have r2 := R05_May_res D hD
  cases mA : mayB A with
  | false =>
   rw [mA] at r1
   simp only [m_zci, hf, hb0, h0, r1, res_test, res_stop, ok_some', out_some, uB_0, beq_self_eq_true, if_true, Bool.not_true, Bool.not_false, Bool.false_eq_true, if_false]
  | true =>
   rw [mA] at r1
   cases mD : mayB D with
   | false =>
    rw [mD] at r2
    simp only [m_zci, hf, hb0, h0, r1, r2, res_test, res_stop, ok_some', out_some, uB_0, beq_self_eq_true, if_true, Bool.not_true, Bool.not_false, Bool.false_eq_true, if_false]
   | true =>
    rw [mD] at r2
    have mT := low_both sA sD mA mD
    have hb := Both_res A D hA hD (mayC mA) (by omega) (by omega)
    have aT : absN (sumB (A ++ D)) ≤ 1000000000 := Nat.le_trans (absN_sum (A ++ D)) (by rw [absN_app]; omega)
    have oT : okB (sumB (A ++ D)) := sumB_okB ⟨by rw [List.length_append]; omega, fun c hc => (List.mem_append.1 hc).elim (hA.2 c) (hD.2 c)⟩ (by rw [absN_app]; omega)
    have lT := sumB_len (A ++ D)
    rw [List.length_append] at lT
    have q1 := RRight_res A hA (by omega)
    have q2 := RRight_res (sumB (A ++ D)) oT (by omega)
    by_cases rA : rightB A = 0
    ·have rA' : (rightB A != 0) = false := by simpa using rA
     by_cases rT : rightB (sumB (A ++ D)) = 0
     ·have rT' : (rightB (sumB (A ++ D)) != 0) = false := by simpa using rT
      have main := regroup_cnt mA mD mT rA rT
      generalize hT : sumB (A ++ D) = T at *
      have sl := (rightB_iff.1 rA).2.2
      have st := (rightB_iff.1 rT).2.2
      have nl := sumN_nn fun c hc => negFree_iff.1 (rightB_iff.1 rA).2.1 c hc
      have nt := sumN_nn fun c hc => negFree_iff.1 (rightB_iff.1 rT).2.1 c hc
      have k1 := cnt_loop7 A (by omega) (by omega) (D.map Cnt.e) (T.map Cnt.e) 0 { data := #[] } { data := #[] } { data := #[] } 0 0 true [[pI 0, pI 0]] A.length 0 (by omega) (by omega)
      have k2 := cnt_loop11 T (by omega) aT (A.map Cnt.e) (D.map Cnt.e) (sumN A) { data := #[] } { data := #[] } { data := #[] } 0 0 true [[pI 0, pI 0]] T.length 0 (by omega) (by omega)
      have z : sumN ([] : List Cnt) = 0 := rfl
      simp only [List.take_zero, z, Int.natCast_zero] at k1 k2
      have h5 := GReg_res [] [] [] 0 0 [] [] true [⟨0, 0⟩] (by decide) (by decide) A D hA hD (by omega) (by omega)
      rw [main, ← want_eq] at h5
      have h5 : (m_zag [.s { data := #[] }, .s { data := #[] }, .s { data := #[] }, .i 0, .i 0, .l [], .l [], .b true, .l [[pI 0, pI 0]], .l (A.map Cnt.e), .l (D.map Cnt.e)]).res = some (0, [.i 0, .l ((wantC (sumN A) (sumN T)).map Cnt.e)]) := h5
      have il : i64 (sumN A) := by unfold i64; omega
      have it : i64 (sumN T) := by unfold i64; omega
      have ow := want_okB il it
      have h6 := R05_Same_res ow ow
      have hd : decide (wantC (sumN A) (sumN T) = wantC (sumN A) (sumN T)) = true := decide_eq_true rfl
      rw [hd] at h6
      have o1 : okB (addC [] [⟨2, sumN A, []⟩] (-1)) := by
       have := want_okB (l := sumN A) (t := 0) il (by unfold i64; omega)
       unfold wantC at this
       rw [if_neg (by omega)] at this
       by_cases hl : 0 < sumN A
       ·rw [if_pos hl] at this; exact this
       ·refine ⟨Nat.le_trans (addC_len _ _ _) (by simp), fun c hc => ?_⟩
        have hc : c = ⟨[⟨2, sumN A, []⟩], -1⟩ := by simpa [addC, one1] using hc
        subst hc
        refine ⟨⟨by simp, fun v hv => ?_⟩, show i64 (-1) by unfold i64; decide⟩
        rw [List.mem_singleton] at hv
        subst hv
        exact two_ok il
      have p1 := Add_res5 [] nil_okB (by simp) List.Pairwise.nil [⟨2, sumN A, []⟩] (-1) (by decide) (fun _ h => by cases h)
      have p1 : (m_zan [.l [], .l [[pI 2, pI (sumN A), pS { data := #[] }]], .i (-1)]).res = some (0, [.l ((addC [] [⟨2, sumN A, []⟩] (-1)).map Cnt.e)]) := p1
      have p2 := Add_res5 [] nil_okB (by simp) List.Pairwise.nil [⟨2, sumN T, []⟩] 1 (by decide) (fun _ h => by cases h)
      have p2 : (m_zan [.l [], .l [[pI 2, pI (sumN T), pS { data := #[] }]], .i 1]).res = some (0, [.l ((addC [] [⟨2, sumN T, []⟩] 1).map Cnt.e)]) := p2
      have p3 := Add_res5 (addC [] [⟨2, sumN A, []⟩] (-1)) o1 (Nat.le_trans (addC_len _ _ _) (by simp)) (addC_canon _ _ canon_nil).1 [⟨2, sumN T, []⟩] 1 (by decide) (fun c hc => by
       have hc : c = ⟨[⟨2, sumN A, []⟩], -1⟩ := by simpa [addC, one1] using hc
       subst hc
       show (-1 : Int).natAbs ≤ _
       decide)
      have p3 : (m_zan [.l ((addC [] [⟨2, sumN A, []⟩] (-1)).map Cnt.e), .l [[pI 2, pI (sumN T), pS { data := #[] }]], .i 1]).res = some (0, [.l ((addC (addC [] [⟨2, sumN A, []⟩] (-1)) [⟨2, sumN T, []⟩] 1).map Cnt.e)]) := p3
      by_cases hl : 0 < sumN A
      ·have hl' : sumN A > 0 := hl
       by_cases ht : 0 < sumN T
       ·have ht' : sumN T > 0 := ht
        have w : wantC (sumN A) (sumN T) = addC (addC [] [⟨2, sumN A, []⟩] (-1)) [⟨2, sumN T, []⟩] 1 := by unfold wantC; rw [if_pos ht, if_pos hl]
        rw [w] at h5 h6
        simp only [m_zci, hf, hb, h0, r1, r2, q1, q2, rA', rT', k1, k2, h5, h6, p1, p3, hl', ht', res_test, res_stop, ok_some', out_some, uB_s, uB_0, uL_0, uL_s, uI_0, uI_s, uS_s, uS_0, decide_true, beq_self_eq_true, if_true, Bool.not_true, Bool.false_eq_true, if_false]
       ·have ht' : ¬ sumN T > 0 := ht
        have w : wantC (sumN A) (sumN T) = addC [] [⟨2, sumN A, []⟩] (-1) := by unfold wantC; rw [if_neg ht, if_pos hl]
        rw [w] at h5 h6
        simp only [m_zci, hf, hb, h0, r1, r2, q1, q2, rA', rT', k1, k2, h5, h6, p1, hl', ht', res_test, res_stop, ok_some', out_some, uB_s, uB_0, uL_0, uL_s, uI_0, uI_s, uS_s, uS_0, decide_true, decide_false, beq_self_eq_true, if_true, Bool.not_true, Bool.false_eq_true, if_false]
      ·have hl' : ¬ sumN A > 0 := hl
       by_cases ht : 0 < sumN T
       ·have ht' : sumN T > 0 := ht
        have w : wantC (sumN A) (sumN T) = addC [] [⟨2, sumN T, []⟩] 1 := by unfold wantC; rw [if_pos ht, if_neg hl]
        rw [w] at h5 h6
        simp only [m_zci, hf, hb, h0, r1, r2, q1, q2, rA', rT', k1, k2, h5, h6, p2, hl', ht', res_test, res_stop, ok_some', out_some, uB_s, uB_0, uL_0, uL_s, uI_0, uI_s, uS_s, uS_0, decide_true, decide_false, beq_self_eq_true, if_true, Bool.not_true, Bool.false_eq_true, if_false]
       ·have ht' : ¬ sumN T > 0 := ht
        have w : wantC (sumN A) (sumN T) = [] := by unfold wantC; rw [if_neg ht, if_neg hl]
        rw [w, List.map_nil] at h5 h6
        simp only [m_zci, hf, hb, h0, r1, r2, q1, q2, rA', rT', k1, k2, h5, h6, hl', ht', res_test, res_stop, ok_some', out_some, uB_s, uB_0, uL_0, uL_s, uI_0, uI_s, uS_s, uS_0, decide_false, beq_self_eq_true, if_true, Bool.not_true, Bool.false_eq_true, if_false]
     ·have rT' : (rightB (sumB (A ++ D)) != 0) = true := by simpa using rT
      simp only [m_zci, hf, hb, h0, r1, r2, q1, q2, rA', rT', res_test, res_stop, ok_some', out_some, uB_0, uL_0, uI_0, beq_self_eq_true, if_true, Bool.not_true, Bool.false_eq_true, if_false]
    ·have rA' : (rightB A != 0) = true := by simpa using rA
     simp only [m_zci, hf, hb, h0, r1, r2, q1, rA', res_test, res_stop, ok_some', out_some, uB_0, uL_0, uI_0, beq_self_eq_true, if_true, Bool.not_true, Bool.false_eq_true, if_false]
 ·have hs' : (lowS A && (lowS D && (decide (([] : List Int).length ≤ 30) && decide (([⟨0, 0⟩] : List Ag).length ≤ 30)))) = false := by simpa using hs
  rw [hs'] at h0
  simp only [m_zci, hf, hb0, h0, res_test, res_stop, ok_some', out_some, uB_0, beq_self_eq_true, if_true, Bool.not_true, Bool.not_false, Bool.false_eq_true, if_false]

end Go.Proofs.YtkaljlpbmbfpgaaGreatDoor

set_option linter.unusedVariables false
set_option linter.unusedSimpArgs false
namespace Go.Proofs.YtkaljlpbmbfpgaaGreatDoor
open Go Go.Pu

/-- a view's cells -/
def Vw.e (v : Vw) : List PV := [pS (bs v.n0), pS (bs v.n1), pS (bs v.w), pI v.i, pI v.j, .lst 192 (v.wh.map Nd.e), .lst 3 (v.pk.map kE), pB v.g, .lst 32 v.ag]
def Vw.us (v : Vw) : List U := [.s (bs v.n0), .s (bs v.n1), .s (bs v.w), .i v.i, .i v.j, .l (v.wh.map Nd.e), .l (v.pk.map kE), .b v.g, .l v.ag]

set_option maxRecDepth 100000 in
theorem arg_bagQ {x : PV} (h : ArgGd Tryz.prog 30 x) : ∃ b : List Cnt, x = .lst 49 (b.map Cnt.e) ∧ okB b := by
 have e : ArgGd Tryz.prog 30 x = Gd Tryz.prog (.sl 49) x := by kernel_rfl
 rw [e] at h
 obtain ⟨l, e, h1, h2⟩ := gd_bag h
 exact ⟨l, e, h1, h2⟩

end Go.Proofs.YtkaljlpbmbfpgaaGreatDoor

set_option linter.unusedVariables false
set_option linter.unusedSimpArgs false
namespace Go.Proofs.YtkaljlpbmbfpgaaGreatDoor
open Go Go.Pu

end Go.Proofs.YtkaljlpbmbfpgaaGreatDoor

set_option linter.unusedVariables false
namespace Go.Proofs.YtkaljlpbmbfpgaaGreatDoor
open Go Go.Pu

theorem bulk_one {H : Type} (d : DataW H) : 1 ≤ Rows.uptoBulk d := by
 cases d with
 | lit l => cases l <;> simp [Rows.uptoBulk]
 | nil => simp [Rows.uptoBulk]
 | ptr d => simp [Rows.uptoBulk]
 | slice elems spare => simp [Rows.uptoBulk]
 | agg parts => simp [Rows.uptoBulk]
 | iface t d => simp [Rows.uptoBulk]
 | map entries => simp [Rows.uptoBulk]
 | held h => simp [Rows.uptoBulk]

theorem bulk_part {H : Type} {d : DataW H} : ∀ {l : List (DataW H)}, d ∈ l → Rows.uptoBulk d ≤ Rows.uptoBulkAll l
 | x :: r, h => by
  simp only [Rows.uptoBulkAll]
  rcases List.mem_cons.1 h with e | e
  ·subst e; omega
  ·have := bulk_part e; omega

theorem bulk_len {H : Type} : ∀ (l : List (DataW H)), l.length ≤ Rows.uptoBulkAll l
 | [] => by simp
 | x :: r => by
  have := bulk_one x
  have := bulk_len r
  simp only [Rows.uptoBulkAll, List.length_cons]
  omega

mutual
theorem wid_bulk {H : Type} : ∀ (d : DataW H), wid d ≤ Rows.uptoBulk d
 | .lit l => by simp [wid]
 | .nil => by simp [wid]
 | .ptr d => by simp [wid]
 | .slice elems spare => by
  have := bulk_len elems
  simp only [wid, Rows.uptoBulk]
  omega
 | .agg parts => by
  have := widAll_bulk parts
  simp only [wid, Rows.uptoBulk]
  omega
 | .iface t d => by simp [wid]
 | .map entries => by simp [wid]
 | .held h => by simp [wid]
theorem widAll_bulk {H : Type} : ∀ (l : List (DataW H)), widAll l ≤ Rows.uptoBulkAll l
 | [] => by simp [widAll]
 | d :: ds => by
  have := wid_bulk d
  have := widAll_bulk ds
  simp only [widAll, Rows.uptoBulkAll]
  omega
end

/-- what is read is not long -/
theorem small_wid {H : Type} (ds : List (DataW H)) (h : Rows.uptoSmall H ds = true) : ∀ d ∈ ds, wid d ≤ 1048576 := fun d hd => by
 have h : Rows.uptoBulkAll ds ≤ 1048576 := of_decide_eq_true h
 have h1 := bulk_part hd
 have h2 := wid_bulk d
 omega

end Go.Proofs.YtkaljlpbmbfpgaaGreatDoor
