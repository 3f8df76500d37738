/- The pure machine, twentieth part: one operation. -/
import Derived.Test.YtkaljlpbmbfpgaaGreatDoorRS
import Derived.MapKept
import Derived.Laws.Externs
import Derived.KernelRfl
set_option linter.unusedSimpArgs false
set_option linter.unusedVariables false
namespace Go.Pu

def Named (P : Program) : Prop := ∀ (f : FuncId) (fn : Func), P.funcs[f]? = some fn → fn.body.isSome = true → fn.name ≠ "runtime.NumGoroutine"

section
variable {P : Program} {E : Env}

theorem skip_wp {o : Oper} {a : Act} {s : Sem Unit} {w' : World} {h' : Heap} {Q : Exit → Act → World → Prop} (he : execOp a.eval o = (do s; pure .skip)) (hs : s.run P E.w = .ok () w') (hr : Step P E h' w' fun _ => True) :
  o.wp P a E.w (OpPost P E h' .top o.dst a) Q := by
 unfold Oper.wp
 rw [he]
 simp only [Sem.run_bind, hs, Result.andThen_ok, Sem.run_pure, Oper.upon_skip]
 obtain ⟨E', e1, e2, e3, e4, _⟩ := hr
 exact ⟨undef, E', rfl, e1, e2, e3, e4, .top _⟩

theorem call_wp {C : CallF} (hN : Named P) (hC : CallsOK P C) {M : FuncId → Bool} {al : Option Nat} {ts : List PV} {a : Act} {o : Oper} {c : Go.Call} {y : Operand} {g : FuncId} {caps : List PV} {x : PV} {h' : Heap} {Q : Exit → Act → World → Prop} (ho : o.op = .call c) (hc : c.callee = .value y)
  (hy : ev ts y = .fn g caps) (h : callOp P C M al E.h g (evs ts c.args ++ caps) = some (x, h')) (hI : Inv P E) (hT : RepT P E ts a) : o.wp P a E.w (OpPost P E h' x o.dst a) Q := by
 have hL := hT.evs c.args
 have hf := hT.ev y
 rw [hy] at hf
 generalize hv : a.eval y = vf at hf
 cases hf with
 | fn _ _ vs hl hr =>
  have hx : RepL P E (evs ts c.args ++ caps) ((c.args.map a.eval) ++ vs).toList := by
   refine ⟨by simp [hL.1, hl], fun i hi => ?_⟩
   simp only [Array.toList_append]
   by_cases hlt : i < (evs ts c.args).length
   ·have h2 : i < (c.args.map a.eval).toList.length := by rw [← hL.1]; exact hlt
    have := hL.2 i hlt
    simp only [List.getD] at this ⊢
    rw [List.getElem?_append_left hlt, List.getElem?_append_left h2]
    exact this
   ·have hge : (evs ts c.args).length ≤ i := by omega
    have h2 : (c.args.map a.eval).toList.length ≤ i := by rw [← hL.1]; exact hge
    have := hr (i - (evs ts c.args).length) (by simp at hi; omega)
    simp only [List.getD] at this ⊢
    rw [List.getElem?_append_right hge, List.getElem?_append_right h2, ← hL.1]
    simpa using this
  obtain ⟨⟨fn, hfn, hb⟩, hcall⟩ := callOp_run hC hI h hx
  have hnm := hN g fn hfn hb
  unfold Oper.wp
  have he : (execOp a.eval o).run P E.w = .ok (.enter g (c.args.map a.eval ++ vs)) E.w := by
   have hb' : fn.body ≠ none := by intro hh; rw [hh] at hb; cases hb
   simp [execOp, ho, resolve, hc, hv, Deferred.ofValue, invoke, callFunc, hfn, hnm, hb']
  rw [he, Oper.upon_enter]
  simp only [Array.toArray_toList] at hcall
  refine hcall.mono ?_
  rintro e w' ⟨v, E', rfl, e1, e2, e3, e4, e5⟩
  exact ⟨v, E', rfl, e1, e2, e3, e4, e5⟩

theorem invokeOf_run {y r : PV} {name : String} {g : FuncId} (h : invokeOf P E.h y name = some (g, r)) {v : Value} (hy : Rep P E y v) (w : World) :
  ∃ t v' u, v = .iface t v' ∧ (Go.method (P.types.size + Made.depth) t v' name).run P w = .ok (g, u) w ∧ Rep P E r u := by
 unfold invokeOf at h
 split at h
 ·rename_i t y
  cases hy with
  | iface _ _ v' hv =>
  split at h
  ·rename_i e hu
   obtain ⟨i, hi, h⟩ := Option.bind_eq_some_iff.1 h
   obtain ⟨m, hm, h⟩ := Option.bind_eq_some_iff.1 h
   obtain ⟨n, hn⟩ : ∃ n, P.types.size + Made.depth = n + 1 := ⟨P.types.size + 99, rfl⟩
   split at h
   ·rename_i f hf
    split at h
    ·rename_i hp
     cases h
     refine ⟨t, v', v', rfl, ?_, hv⟩
     rw [hn]
     simp [Go.method, run_typeInfo w hi, hm, hp, hf, Go.follow, Go.receiverAt, run_underlying hu, Go.Place.get]
    ·rename_i s hp
     split at h
     ·rename_i fs hd hs
      obtain ⟨fd, hfd, h⟩ := Option.bind_eq_some_iff.1 h
      obtain ⟨j, hj, h⟩ := Option.bind_eq_some_iff.1 h
      split at h
      ·rename_i fs2 hu2
       split at h
       ·cases h
       ·rename_i hc
        simp only [not_or, Bool.not_eq_false] at hc
        cases h
        obtain ⟨blk, k, rfl⟩ := alive_ptr hc.2 hv
        refine ⟨t, _, _, rfl, ?_, moved_rep hv hc.2 fd.offset⟩
        rw [hn]
        simp [Go.method, run_typeInfo w hi, hm, hp, hf, Go.follow, Go.receiverAt, run_underlying hs, run_underlying hu2, Go.Place.get, hfd, hd, asAddr, fieldPlace, run_sizeOf w hj, hc.1, Addr.add_lit]
      ·cases h
     ·cases h
    ·cases h
   ·cases h
  ·cases h
 ·cases h

theorem invoke_wp {C : CallF} (hN : Named P) (hC : CallsOK P C) {M : FuncId → Bool} {al : Option Nat} {ts : List PV} {a : Act} {o : Oper} {c : Go.Call} {y : Operand} {name : String} {g : FuncId} {r x : PV} {h' : Heap} {Q : Exit → Act → World → Prop} (ho : o.op = .call c) (hc : c.callee = .invoke y name)
  (hy : invokeOf P E.h (ev ts y) name = some (g, r)) (h : callOp P C M al E.h g (r :: evs ts c.args) = some (x, h')) (hI : Inv P E) (hT : RepT P E ts a) : o.wp P a E.w (OpPost P E h' x o.dst a) Q := by
 have hL := hT.evs c.args
 obtain ⟨t, v', u, hv, hm, hu⟩ := invokeOf_run hy (hT.ev y) E.w
 have hx : RepL P E (r :: evs ts c.args) (#[u] ++ c.args.map a.eval).toList := by
  refine ⟨by simp [hL.1], fun i hi => ?_⟩
  cases i with
  | zero => simpa using hu
  | succ i => simpa using hL.2 i (by simpa using hi)
 obtain ⟨⟨fn, hfn, hb⟩, hcall⟩ := callOp_run hC hI h hx
 have hnm := hN g fn hfn hb
 unfold Oper.wp
 have he : (execOp a.eval o).run P E.w = .ok (.enter g (#[u] ++ c.args.map a.eval)) E.w := by
  have hb' : fn.body ≠ none := by intro hh; rw [hh] at hb; cases hb
  have hex : (#[a.eval y] ++ c.args.map a.eval).extract 1 (#[a.eval y] ++ c.args.map a.eval).size = c.args.map a.eval := by
   apply Array.ext'
   simp
   exact List.take_of_length_le (by simp)
  have h0 : (#[a.eval y] ++ c.args.map a.eval)[0]? = some (Value.iface t v') := by rw [hv, Array.getElem?_append_left (by simp)]; rfl
  simp only [execOp, ho, resolve, hc, invoke, Sem.run_bind, Sem.run_pure, Result.andThen_ok, h0, hex, callMethod, run_program, hm, callFunc, hfn]
  simp [hnm, hb']
 rw [he, Oper.upon_enter]
 simp only [Array.toArray_toList] at hcall
 refine hcall.mono ?_
 rintro e w' ⟨v, E', rfl, e1, e2, e3, e4, e5⟩
 exact ⟨v, E', rfl, e1, e2, e3, e4, e5⟩

theorem find_add (fn : Func) (h : fn.name = "math/bits.Add64") : Extern.find fn = some add64Entry := by
 obtain ⟨⟩ := fn
 simp only at h
 subst h
 kernel_rfl

/-- the model's entry for differences, word for word -/
def subEntry : Array Value → Sem Value := fun args => do
 let (x, y, b) ← Extern.MathBitsCarry.three "Sub64" args
 pure (Extern.MathBitsCarry.pair ((x + Extern.MathBitsCarry.m64 - y - b) % Extern.MathBitsCarry.m64) (if x < y + b then 1 else 0))

theorem find_sub (fn : Func) (h : fn.name = "math/bits.Sub64") : Extern.find fn = some subEntry := by
 obtain ⟨⟩ := fn
 simp only at h
 subst h
 kernel_rfl

theorem run_sub (x y b : Nat) (hb : b ≤ 1) (w : World) :
  (subEntry #[.int .u64 x, .int .u64 y, .int .u64 b]).run P w =
   .ok (.tuple #[.int .u64 (((x + 18446744073709551616 - y - b) % 18446744073709551616 : Nat) : Int), .int .u64 ((if x < y + b then 1 else 0 : Nat) : Int)]) w := by
 have : b = 0 ∨ b = 1 := by omega
 rcases this with rfl | rfl <;> rfl

theorem rep_two {x y : PV} {u v : Value} (hx : Rep P E x u) (hy : Rep P E y v) : Rep P E (.tuple [x, y]) (.tuple #[u, v]) := by
 refine .tuple _ _ rfl fun i hi => ?_
 match i, hi with
 | 0, _ => exact hx
 | 1, _ => exact hy

theorem extern_run {g : FuncId} {e : Bool} (he : externOf P g = some e) {xs : List PV} {x : PV} (h : externOp e xs = some x) {vs : List Value} (hL : RepL P E xs vs) (w : World) :
  ∃ v, (callFunc g vs.toArray).run P w = .ok (.value v) w ∧ Rep P E x v := by
 unfold externOp at h
 split at h
 case h_2 => cases h
 rename_i a b c
 split at h
 case isFalse => cases h
 rename_i hin
 cases h
 obtain ⟨h1, h2, h3, h4, h5⟩ := of_decide_eq_true hin
 obtain ⟨hl, hr⟩ := hL
 match vs, hl, hr with
 | [v1, v2, v3], _, hr =>
  have r1 : Rep P E (.int .u64 a) v1 := by simpa using hr 0 (by simp)
  have r2 : Rep P E (.int .u64 b) v2 := by simpa using hr 1 (by simp)
  have r3 : Rep P E (.int .u64 c) v3 := by simpa using hr 2 (by simp)
  obtain rfl := r1.int_inv
  obtain rfl := r2.int_inv
  obtain rfl := r3.int_inv
  unfold externOf at he
  split at he
  case h_2 => cases he
  rename_i fn hfn
  split at he
  case isFalse => cases he
  rename_i hb
  simp only [Bool.and_eq_true, Option.isNone_iff_eq_none] at hb
  have hnx := hb.2
  have hbd : fn.body.isNone = true := by rw [hb.1]; rfl
  split at he
  ·rename_i hn
   have hn := eq_of_beq hn
   cases he
   refine ⟨_, ?_, rep_two (.int _ _) (.int _ _)⟩
   rw [run_callFunc_extern hfn (by rw [hn]; rfl) hbd hnx (find_add fn hn)]
   show ((add64Entry #[.int .u64 a, .int .u64 b, .int .u64 c]).run P w).andThen _ = _
   rw [run_add64 a b c h1 h2 h4 h5]
   rfl
  ·split at he
   ·rename_i hn
    have hn := eq_of_beq hn
    cases he
    refine ⟨_, ?_, rep_two (.int _ _) (.int _ _)⟩
    rw [run_callFunc_extern hfn (by rw [hn]; rfl) hbd hnx (find_sub fn hn)]
    show ((subEntry #[.int .u64 a, .int .u64 b, .int .u64 c]).run P w).andThen _ = _
    obtain ⟨a, rfl⟩ : ∃ k : Nat, a = k := ⟨a.toNat, by omega⟩
    obtain ⟨b, rfl⟩ : ∃ k : Nat, b = k := ⟨b.toNat, by omega⟩
    obtain ⟨c, rfl⟩ : ∃ k : Nat, c = k := ⟨c.toNat, by omega⟩
    rw [run_sub a b c (by omega)]
    have e1 : (((a + 18446744073709551616 - b - c) % 18446744073709551616 : Nat) : Int) = subLo a b c := by
     unfold subLo
     omega
    have e2 : ((if a < b + c then 1 else 0 : Nat) : Int) = subHi a b c := by
     unfold subHi
     split <;> split <;> omega
    rw [e1, e2]
    rfl
   ·cases he

theorem extern_wp {ts : List PV} {a : Act} {o : Oper} {c : Go.Call} {y : Operand} {g : FuncId} {caps : List PV} {e : Bool} {x : PV} {h' : Heap} {Q : Exit → Act → World → Prop} (ho : o.op = .call c) (hc : c.callee = .value y)
  (hy : ev ts y = .fn g caps) (he : externOf P g = some e) (h : keep E.h (externOp e (evs ts c.args ++ caps)) = some (x, h')) (hI : Inv P E) (hT : RepT P E ts a) : o.wp P a E.w (OpPost P E h' x o.dst a) Q := by
 obtain ⟨h1, rfl⟩ := keep_some h
 have hL := hT.evs c.args
 have hf := hT.ev y
 rw [hy] at hf
 generalize hv : a.eval y = vf at hf
 cases hf with
 | fn _ _ vs hl hr =>
  have hx : RepL P E (evs ts c.args ++ caps) ((c.args.map a.eval) ++ vs).toList := by
   refine ⟨by simp [hL.1, hl], fun i hi => ?_⟩
   simp only [Array.toList_append]
   by_cases hlt : i < (evs ts c.args).length
   ·have h2 : i < (c.args.map a.eval).toList.length := by rw [← hL.1]; exact hlt
    have := hL.2 i hlt
    simp only [List.getD] at this ⊢
    rw [List.getElem?_append_left hlt, List.getElem?_append_left h2]
    exact this
   ·have hge : (evs ts c.args).length ≤ i := by omega
    have h2 : (c.args.map a.eval).toList.length ≤ i := by rw [← hL.1]; exact hge
    have := hr (i - (evs ts c.args).length) (by simp at hi; omega)
    simp only [List.getD] at this ⊢
    rw [List.getElem?_append_right hge, List.getElem?_append_right h2, ← hL.1]
    simpa using this
  obtain ⟨v, e1, e2⟩ := extern_run he h1 hx E.w
  simp only [Array.toArray_toList] at e1
  unfold Oper.wp
  have hex : (execOp a.eval o).run P E.w = .ok (.value v) E.w := by
   simp only [execOp, ho, resolve, hc, hv, Deferred.ofValue, invoke, Sem.run_bind, Sem.run_pure, Result.andThen_ok]
   simpa using e1
  rw [hex, Oper.upon_value]
  exact ⟨v, E, rfl, rfl, rfl, Trans.refl E, hI, e2⟩

theorem ifaceOp_run {t : TypeId} {y x : PV} (h : ifaceOp P t y = some x) {v : Value} (hy : Rep P E y v) (w : World) : ∃ u, (Instr.makeInterface t v).run P w = .ok u w ∧ Rep P E x u := by
 unfold ifaceOp at h
 split at h
 ·rename_i e b o hu
  cases h
  exact ⟨_, by simp [Instr.makeInterface, run_underlying hu], .iface _ _ _ hy⟩
 ·cases h

theorem bytes_ne {a b : ByteArray} (h : a ≠ b) : (a == b) = false := by
 cases e : (a == b) with
 | false => rfl
 | true => exact absurd ((MapKept.bytes_beq a b).1 e) h

theorem at_none (s : ByteArray) : ∀ (l : List (List PV)), (∀ i, i < l.length → keyM (l.getD i []) ≠ s) → atM l s = .top ∧ ∀ x, putM l s x = l ++ [[.str s, x]]
 | [], _ => ⟨rfl, fun _ => rfl⟩
 | e :: l, h => by
  have h0 : (keyM e == s) = false := bytes_ne (h 0 (by simp))
  obtain ⟨h1, h2⟩ := at_none s l fun i hi => by simpa using h (i + 1) (by simp; exact hi)
  refine ⟨by simp only [atM, h0]; exact h1, fun x => ?_⟩
  simp only [putM, h0, h2 x, List.cons_append]
  rfl

theorem at_some (s : ByteArray) : ∀ (l : List (List PV)) (j : Nat), j < l.length → keyM (l.getD j []) = s → (∀ i, i < j → keyM (l.getD i []) ≠ s) →
  atM l s = (l.getD j []).getD 1 .top ∧ ∀ x, putM l s x = l.set j [.str s, x]
 | [], j, h, _, _ => by simp at h
 | e :: l, 0, h, hk, _ => by
  have h0 : (keyM e == s) = true := (MapKept.bytes_beq _ _).2 hk
  refine ⟨by simp only [atM, h0]; rfl, fun x => ?_⟩
  simp only [putM, h0, List.set_cons_zero]
  rfl
 | e :: l, j + 1, h, hk, hn => by
  have h0 : (keyM e == s) = false := bytes_ne (hn 0 (by omega))
  obtain ⟨h1, h2⟩ := at_some s l j (by simpa using h) (by simpa using hk) fun i hi => by simpa using hn (i + 1) (by omega)
  refine ⟨by simp only [atM, h0]; simpa using h1, fun x => ?_⟩
  simp only [putM, h0, h2 x, List.set_cons_succ]
  rfl

theorem mapOf_spec {t e : TypeId} (h : mapOf P t = some e) : ∃ k, P.underlying t = some (.map k e) ∧ P.underlying k = some .string := by
 unfold mapOf at h
 split at h
 ·rename_i k e' hu
  split at h
  ·rename_i hk
   cases h
   exact ⟨k, hu, hk⟩
  ·cases h
 ·cases h

theorem zeroPV_spec {e : TypeId} {z : PV} (h : zeroPV P e = some z) : ∃ i zv, P.info? e = some i ∧ i.zero = some zv ∧ ofConst zv = z := by
 unfold zeroPV at h
 cases hi : P.info? e with
 | none => simp [hi] at h
 | some i =>
  cases hz : i.zero with
  | none => simp [hi, hz] at h
  | some zv => simp [hi, hz] at h; exact ⟨i, zv, rfl, hz, h⟩

theorem ofConst_nils {v : Value} (h : ofConst v = .nils) : v = .slice none 0 0 := by
 unfold ofConst at h
 split at h
 ·cases h
 ·unfold ofConst1 at h
  split at h <;> first | rfl | cases h

theorem ofConst_false {v : Value} (h : ofConst v = .bool false) : v = .bool false := by
 unfold ofConst at h
 split at h
 ·cases h
 ·unfold ofConst1 at h
  split at h <;> first | (cases h; rfl) | cases h

theorem valOK_sl {e u : TypeId} (h : valOK P e = true) (hk : kdOf P e = .sl u) : (∃ i, P.info? e = some i ∧ i.zero = some (.slice none 0 0)) ∧ ∃ sz, elSize P u = some sz := by
 unfold valOK at h
 rw [hk] at h
 split at h
 ·rename_i u' h1 h2
  cases h1
  obtain ⟨i, zv, hi, hz, hc⟩ := zeroPV_spec h2
  rw [ofConst_nils hc] at hz
  exact ⟨⟨i, hi, hz⟩, Option.isSome_iff_exists.1 h⟩
 ·rename_i h1 _; cases h1
 ·cases h

theorem valOK_bool {e : TypeId} (h : valOK P e = true) (hk : kdOf P e = .bool) : ∃ i, P.info? e = some i ∧ i.zero = some (.bool false) := by
 unfold valOK at h
 rw [hk] at h
 split at h
 ·rename_i u' h1 h2; cases h1
 ·rename_i h1 h2
  obtain ⟨i, zv, hi, hz, hc⟩ := zeroPV_spec h2
  rw [ofConst_false hc] at hz
  exact ⟨i, hi, hz⟩
 ·cases h

theorem valOK_kd {e : TypeId} (h : valOK P e = true) : (∃ u, kdOf P e = .sl u) ∨ kdOf P e = .bool := by
 unfold valOK at h
 split at h
 ·rename_i h1 _; exact .inl ⟨_, h1⟩
 ·rename_i h1 _; exact .inr h1
 ·cases h

/-- a key is found, or it is not -/
theorem map_find {w : World} {t e ob : Nat} {eo : Array MapEntry} {clock : Nat} {es : List (List PV)} {zv : Value} {inf : TypeInfo} (hm : mapOf P t = some e) (hb : w.heap[ob]? = some (.map eo clock)) (hl : eo.size = es.length)
  (he : ∀ i, i < es.length → ∃ k x, es.getD i [] = [.str k, x] ∧ (eo.getD i default).key = .string k)
  (hd : ∀ i j, i < es.length → j < es.length → keyM (es.getD i []) = keyM (es.getD j []) → i = j) (hi : P.info? e = some inf) (hz : inf.zero = some zv) (s : ByteArray) :
  ((∀ i, i < es.length → keyM (es.getD i []) ≠ s) ∧ atM es s = .top ∧ (∀ x, putM es s x = es ++ [[.str s, x]]) ∧ (Instr.lookup t (.map (some ob)) (.string s) false).run P w = .ok zv w ∧
   ∀ v, (Instr.mapUpdate t (.map (some ob)) (.string s) v).run P w = .ok () { w with heap := w.heap.setIfInBounds ob (.map (eo.push { key := .string s, val := v, born := clock }) (clock + 1)) }) ∨
  ∃ j, j < es.length ∧ keyM (es.getD j []) = s ∧ atM es s = (es.getD j []).getD 1 .top ∧ (∀ x, putM es s x = es.set j [.str s, x]) ∧ (Instr.lookup t (.map (some ob)) (.string s) false).run P w = .ok (eo.getD j default).val w ∧
   ∀ v, ∃ en, en.key = .string s ∧ en.val = v ∧ (Instr.mapUpdate t (.map (some ob)) (.string s) v).run P w = .ok () { w with heap := w.heap.setIfInBounds ob (.map (eo.set! j en) clock) } := by
 obtain ⟨k, hu, hk⟩ := mapOf_spec hm
 have hget : ∀ i (h : i < eo.size), eo.getD i default = eo[i] := fun i h => by simp [Array.getD, h]
 have hkey : ∀ i, i < es.length → (eo.getD i default).key = .string (keyM (es.getD i [])) := by
  intro i hi
  obtain ⟨k, x, h1, h2⟩ := he i hi
  rw [h2, h1]; rfl
 have hks : ∀ x ∈ eo.toList, MapKept.IsKey .string x.key := by
  intro x hx
  obtain ⟨i, hi, rfl⟩ := List.getElem_of_mem hx
  have hi' : i < eo.size := by simpa using hi
  have := hkey i (by omega)
  rw [hget i hi'] at this
  simp only [Array.getElem_toList, this, MapKept.IsKey]
 have hsk : MapKept.IsKey .string (.string s) := trivial
 rcases MapKept.findNow_spec hsk eo.toList 0 hks with ⟨h1, h2⟩ | ⟨j, en, h1, h2, h3⟩
 ·have hne : ∀ i, i < es.length → keyM (es.getD i []) ≠ s := by
   intro i hi heq
   have h4 := hkey i hi
   rw [heq, hget i (by omega)] at h4
   exact h2 _ (by simp) h4
  obtain ⟨a1, a2⟩ := at_none s es hne
  refine .inl ⟨hne, a1, a2, ?_, fun v => ?_⟩
  ·simp [Instr.lookup, run_underlying hu, MapKept.run_getObj_map hb, MapKept.run_checkKey hk hsk, MapKept.run_findKey hk h1, run_zeroValue w hi hz, Result.andThen]
  ·simp [Instr.mapUpdate, run_underlying hu, MapKept.run_getObj_map hb, MapKept.run_checkKey hk hsk, MapKept.run_findKey hk h1, MapKept.run_setObj_map _ hb, Result.andThen]
 ·have hj : eo[j]? = some en := by simpa using h2
  have hjs : j < eo.size := (Array.getElem?_eq_some_iff.1 hj).1
  have hje : eo.getD j default = en := by rw [hget j hjs]; exact (Array.getElem?_eq_some_iff.1 hj).2
  have hkj : keyM (es.getD j []) = s := by
   have := hkey j (by omega)
   rw [hje, h3] at this
   exact (Value.string.inj this).symm
  obtain ⟨a1, a2⟩ := at_some s es j (by omega) hkj fun i hi heq => by
   have := hd i j (by omega) (by omega) (heq.trans hkj.symm)
   omega
  refine .inr ⟨j, by omega, hkj, a1, a2, ?_, fun v => ⟨{ en with key := .string s, val := v }, rfl, rfl, ?_⟩⟩
  ·simp [Instr.lookup, run_underlying hu, MapKept.run_getObj_map hb, MapKept.run_checkKey hk hsk, MapKept.run_findKey hk h1, Result.andThen, hje, hj]
  ·have hmod : (eo.modify j fun e => { e with key := .string s, val := v }) = eo.set! j { en with key := .string s, val := v } := by
    apply Array.ext_getElem?
    intro i
    rw [Array.getElem?_modify]
    by_cases hij : j = i
    ·subst hij
     have hej := (Array.getElem?_eq_some_iff.1 hj).2
     simp [hjs, hej]
    ·simp [hij]
   simp [Instr.mapUpdate, run_underlying hu, MapKept.run_getObj_map hb, MapKept.run_checkKey hk hsk, MapKept.run_findKey hk h1, hj, h3, MapKept.run_keyThatStays hsk, MapKept.run_setObj_map _ hb, Result.andThen, hmod]

theorem makeMap_run (hI : Inv P E) {t : TypeId} {al : Option Nat} {x : PV} {h' : Heap} (h : makeMapOp P t al E.h = some (x, h')) (hal : AlOK E.h al) :
  ∃ v w', (Instr.makeMap t none).run P E.w = .ok v w' ∧ Res P E h' x v w' := by
 unfold makeMapOp at h
 cases hm : mapOf P t with
 | none => simp [hm] at h
 | some e =>
  simp only [hm, Option.bind_some] at h
  split at h
  ·rename_i hv
   cases h
   have hrun : (Instr.makeMap t none).run P E.w = .ok (.map (some E.w.heap.size)) { E.w with heap := E.w.heap.push (.map #[] 0) } := rfl
   have hg := Grow.alloc E.w (.map #[] 0)
   have hr : ∀ blk o, some (E.w.heap.size, 0) = some (blk, o) → E.w.heap.size ≤ blk := by rintro blk o h; cases h; exact Nat.le_refl _
   have hmm : ∀ t es st, Blk.map e [] .live = .map t es st → es = [] := by intro _ _ _ h; cases h; rfl
   have hT := add_trans hI (b := .map e [] .live) (r := some (E.w.heap.size, 0)) hal hg hr hmm
   obtain ⟨h1, h2, h3⟩ := alloc_spec hal (.map e [] .live)
   have hρ : (E.add { E.w with heap := E.w.heap.push (.map #[] 0) } al (.map e [] .live) (some (E.w.heap.size, 0))).ρ (allocAt al E.h (.map e [] .live)).1 = some (E.w.heap.size, 0) := upd_same _ _ _
   have hh : (E.add { E.w with heap := E.w.heap.push (.map #[] 0) } al (.map e [] .live) (some (E.w.heap.size, 0))).h[(allocAt al E.h (.map e [] .live)).1]? = some (.map e [] .live) := h1
   refine ⟨_, _, hrun, E.add _ al (.map e [] .live) (some (E.w.heap.size, 0)), rfl, rfl, hT, add_inv hI hal hg hr ?_ hmm, .mp _ _ ?_⟩
   ·unfold BlkAt
    rw [hh]
    refine ⟨E.w.heap.size, #[], 0, hρ, (show (E.w.heap.push (Obj.map #[] 0))[E.w.heap.size]? = _ by simp), rfl, hv, fun i hi => by simp at hi, fun i j hi => by simp at hi, fun i j blk hi => by simp at hi, fun _ hm => Nat.lt_irrefl _ (hI.imlt _ hm), fun h => by cases h⟩
   ·unfold MapPtr
    rw [hh]
    exact ⟨_, hρ, rfl⟩
  ·cases h

theorem SlcIn.cells {st : MS} {u : TypeId} {rows : List (List PV)} {v : Value} (h : SlcIn P E st u rows v) {k : Nat} (ha : ArrOf v k) : ∃ c T, E.w.heap[k]? = some (.cells c T (0, 0)) := by
 obtain ⟨sz, A, cap, h1, h2, h3, h4, h5⟩ := h
 obtain ⟨o, n, cap', hv, hne⟩ := ha
 rw [h2] at hv
 cases hv
 rcases h5 with ⟨h0, _⟩ | ⟨blk, o', c, T, q1, q2, _⟩
 ·exact absurd h0 hne
 ·cases q1
  exact ⟨c, T, q2⟩

/-- a key's row is taken out of a map -/
theorem take_env (hI : Inv P E) {al : Option Nat} {b ob clock : Nat} {e u : TypeId} {es : List (List PV)} {eo : Array MapEntry} {s : ByteArray} (hb : E.h[b]? = some (.map e es .live)) (hu : kdOf P e = .sl u)
  (hρ : E.ρ b = some (ob, 0)) (r2 : E.w.heap[ob]? = some (.map eo clock)) (hal : AlOK E.h al) {v : Value} {rows : List (List PV)} (hS : SlcIn P E .live u rows v)
  (hA : ∀ blk, ArrOf v blk → ∃ j, j < es.length ∧ keyM (es.getD j []) = s ∧ ArrOf (eo.getD j default).val blk) :
  Res P E (allocAt al (E.h.set b (.map e es (.out s))) (.arr u rows true)).2 (.all (allocAt al (E.h.set b (.map e es (.out s))) (.arr u rows true)).1) v E.w := by
 have hbl := lt_of_some hb
 have hset : (E.h.set b (.map e es (.out s)))[b]? = some (.map e es (.out s)) := by simp [hbl]
 have hoth : ∀ i, i ≠ b → (E.h.set b (.map e es (.out s)))[i]? = E.h[i]? := fun i hi => by rw [List.getElem?_set, if_neg (Ne.symm hi)]
 have hal' : AlOK (E.h.set b (.map e es (.out s))) al := by
  cases al with
  | none => trivial
  | some q =>
   have hq : E.h[q]? = some .res := hal
   have : q ≠ b := by rintro rfl; rw [hb] at hq; cases hq
   show (E.h.set b _)[q]? = _
   rw [hoth q this]; exact hq
 obtain ⟨q1, q2, q3⟩ := alloc_spec hal' (.arr u rows true)
 generalize hn : (allocAt al (E.h.set b (.map e es (.out s))) (.arr u rows true)).1 = n at *
 generalize hH : (allocAt al (E.h.set b (.map e es (.out s))) (.arr u rows true)).2 = H at *
 have hnb : n ≠ b := by rintro rfl; rw [hset] at q3; rcases q3 with q3 | q3 <;> cases q3
 have q3' : E.h[n]? = none ∨ E.h[n]? = some .res := by rw [← hoth n hnb]; exact q3
 have hHb : H[b]? = some (.map e es (.out s)) := by rw [q2 b (Ne.symm hnb), hset]
 have hHo : ∀ i, i ≠ n → i ≠ b → H[i]? = E.h[i]? := fun i h1 h2 => by rw [q2 i h1, hoth i h2]
 have hB := hI.blk b
 unfold BlkAt at hB
 rw [hb] at hB
 obtain ⟨ob', eo', clock', r1, r2', r3, r4, r5, r6, r7, r8, r9⟩ := hB
 rw [hρ] at r1
 cases r1
 rw [r2] at r2'
 cases r2'
 have hcells := fun {k : Nat} (ha : ArrOf v k) => hS.cells ha
 have ownv : ∀ k, ArrOf v k → OwnB E b k := fun k ha => by
  obtain ⟨j, hj, _, hj3⟩ := hA k ha
  exact .inr ⟨e, es, .live, ob, eo, clock, hb, (fun h => by cases h), hρ, r2, .inr ⟨j, hj, trivial, hj3⟩⟩
 obtain ⟨sz, A, cap, s1, s2, s3, s4, s5⟩ := hS
 obtain ⟨r, hr⟩ : ∃ r : Option (Nat × Nat), (r = none ∧ rows = [] ∧ cap = 0) ∨ ∃ blk o c T, r = some (blk, o) ∧ A = some ⟨blk, o, none⟩ ∧ cap ≠ 0 ∧ E.w.heap[blk]? = some (.cells c T (0, 0)) ∧ o + cap * sz ≤ c.size ∧
   (∀ i j, i < rows.length → j < sz → Rep P E ((rows.getD i []).getD j .top) (c.getD (o + i * sz + j) undef)) ∧ ¬ E.im blk := by
  by_cases h0 : cap = 0
  ·exact ⟨none, .inl ⟨rfl, List.eq_nil_of_length_eq_zero (by omega), h0⟩⟩
  ·rcases s5 with ⟨h1, _⟩ | ⟨blk, o, c, T, p1, p2, p3, p4, p5, _⟩
   ·exact absurd h1 h0
   ·exact ⟨some (blk, o), .inr ⟨blk, o, c, T, rfl, p1, h0, p2, p3, p4, p5 (fun h => by cases h)⟩⟩
 let E' : Env := { w := E.w, h := H, ρ := upd E.ρ n r, im := E.im }
 have conv : ∀ i k, OwnB E' i k → (i = n ∧ ArrOf v k) ∨ (i = b ∧ OwnB E b k ∧ (k = ob ∨ ∃ j, j < es.length ∧ keyM (es.getD j []) ≠ s ∧ ArrOf (eo.getD j default).val k)) ∨ (i ≠ n ∧ i ≠ b ∧ OwnB E i k) := by
  intro i k h
  by_cases e1 : i = n
  ·subst e1
   refine .inl ⟨rfl, ?_⟩
   have hHi : E'.h[i]? = some (.arr u rows true) := q1
   have hρi : E'.ρ i = r := upd_same _ _ _
   rcases h with ⟨o, k1, _⟩ | ⟨_, _, _, _, _, _, k1, _⟩
   ·rw [hρi] at k1
    rcases hr with ⟨h1, _⟩ | ⟨blk, o', c, T, h1, h2, h3, _⟩
    ·rw [h1] at k1; cases k1
    ·rw [h1] at k1
     cases k1
     exact ⟨o, rows.length, cap, by rw [s2, h2], h3⟩
   ·rw [hHi] at k1; cases k1
  ·by_cases e2 : i = b
   ·subst e2
    refine .inr (.inl ⟨rfl, ?_⟩)
    have hHi : E'.h[i]? = some (.map e es (.out s)) := hHb
    have hρi : E'.ρ i = some (ob, 0) := by rw [← hρ]; exact upd_other _ _ _ _ e1
    rcases h with ⟨o, _, ⟨_, _, k1⟩ | ⟨_, _, k1⟩⟩ | ⟨t', es', st', ob', eo', cl', k1, k2, k3, k4, k5⟩
    ·rw [hHi] at k1; cases k1
    ·rw [hHi] at k1; cases k1
    ·rw [hHi] at k1
     cases k1
     rw [hρi] at k3
     cases k3
     have k4' : E.w.heap[ob]? = some (.map eo' cl') := k4
     rw [r2] at k4'
     cases k4'
     rcases k5 with rfl | ⟨j, hj, hh, ha⟩
     ·exact ⟨.inr ⟨e, es, .live, k, eo, clock, hb, (fun h => by cases h), hρ, r2, .inl rfl⟩, .inl rfl⟩
     ·exact ⟨.inr ⟨e, es, .live, ob, eo, clock, hb, (fun h => by cases h), hρ, r2, .inr ⟨j, hj, trivial, ha⟩⟩, .inr ⟨j, hj, hh, ha⟩⟩
   ·exact .inr (.inr ⟨e1, e2, OwnB.keep (E := E) (E' := E') (hHo i e1 e2) (upd_other _ _ _ _ e1) (fun _ _ _ => rfl) h⟩)
 have hT : Trans E E' := by
  refine ⟨fun i => ?_, fun i hi hres _ => ?_, fun _ h => h, Nat.le_refl _, rfl, rfl, rfl, fun _ _ _ => rfl, fun blk c T fz h => ⟨c, h, rfl⟩, fun blk _ ho => ?_, fun _ _ h => .inl h⟩
  ·show Compat E.h[i]? H[i]?
   by_cases e1 : i = n
   ·subst e1
    rcases q3' with q | q
    ·rw [q]; trivial
    ·rw [q, q1]; trivial
   ·by_cases e2 : i = b
    ·subst e2; rw [hb, hHb]; exact ⟨rfl, fun h => by cases h⟩
    ·rw [hHo i e1 e2]; exact Compat.refl _
  ·refine upd_other _ _ _ _ ?_
   rintro rfl
   rcases q3' with q | q
   ·rw [List.getElem?_eq_getElem hi] at q; cases q
   ·exact hres q
  ·obtain ⟨i, h⟩ := ho
   rcases conv i blk h with ⟨_, h⟩ | ⟨_, h, _⟩ | ⟨_, _, h⟩
   ·exact ⟨b, ownv blk h⟩
   ·exact ⟨b, h⟩
   ·exact ⟨i, h⟩
 refine ⟨E', rfl, rfl, hT, ⟨fun i => ?_, fun i j k hi hj => ?_, hI.imlt, hI.tabT hT⟩, .all n rows.length v (fun t' es' l' h => ?_) ?_⟩
 ·by_cases e1 : i = n
  ·subst e1
   unfold BlkAt
   rw [show E'.h[i]? = some (.arr u rows true) from q1]
   refine ⟨s4, ?_⟩
   rw [show E'.ρ i = r from upd_same _ _ _]
   rcases hr with ⟨rfl, h2, _⟩ | ⟨blk, o, c, T, rfl, p1, p2, p3, p4, p5, p6⟩
   ·exact h2
   ·refine ⟨sz, c, T, s1, p3, Nat.le_trans (Nat.add_le_add_left (Nat.mul_le_mul_right _ s3) _) p4, fun i j hi hj => (p5 i j hi hj).mono hI hT, fun _ => p6, fun h => by cases h⟩
  ·by_cases e2 : i = b
   ·subst e2
    unfold BlkAt
    rw [show E'.h[i]? = some (.map e es (.out s)) from hHb]
    refine ⟨ob, eo, clock, by rw [← hρ]; exact upd_other _ _ _ _ e1, r2, r3, r4, fun j hj => ?_, r6, fun j j' blk hj hj' _ _ ha ha' => r7 j j' blk hj hj' trivial trivial ha ha', fun _ => r8 (fun h => by cases h), fun h => by cases h⟩
    obtain ⟨k, x, x1, x2, x3⟩ := r5 j hj
    refine ⟨k, x, x1, x2, fun hh => ?_⟩
    have h3 := x3 (.inl trivial)
    rw [hu] at h3
    rw [hu]
    obtain ⟨rs, y1, y2⟩ := h3
    refine ⟨rs, y1, ?_⟩
    obtain ⟨sz', A', cap', z1, z2, z3, z4, z5⟩ := y2.keep (E' := E') hI hT (fun _ _ => rfl) (fun _ _ _ h => h)
    refine ⟨sz', A', cap', z1, z2, z3, z4, ?_⟩
    rcases z5 with z5 | ⟨blk, o, c, T, y1, y2, y3, y4, y5, y6⟩
    ·exact .inl z5
    ·exact .inr ⟨blk, o, c, T, y1, y2, y3, y4, fun _ => y5 (fun h => by cases h), fun h => by cases h⟩
   ·exact (hI.blk i).keep hI hT (hHo i e1 e2) (upd_other _ _ _ _ e1) (fun _ _ _ => rfl) (fun _ _ h => h)
 ·have nb : ∀ {k}, ArrOf v k → (k = ob ∨ ∃ j, j < es.length ∧ keyM (es.getD j []) ≠ s ∧ ArrOf (eo.getD j default).val k) → False := by
   intro k ha hc
   rcases hc with rfl | ⟨j, hj, hne, ha2⟩
   ·obtain ⟨c, T, hc⟩ := hcells ha
    rw [r2] at hc
    cases hc
   ·obtain ⟨j', hj', hk', ha'⟩ := hA k ha
    have := r7 j j' k hj hj' trivial trivial ha2 ha'
    subst this
    exact hne hk'
  rcases conv i k hi with ⟨i1, hi⟩ | ⟨i1, hi, hi2⟩ | ⟨i1, i2, hi⟩ <;> rcases conv j k hj with ⟨j1, hj⟩ | ⟨j1, hj, hj2⟩ | ⟨j1, j2, hj⟩
  ·rw [i1, j1]
  ·exact (nb hi hj2).elim
  ·exact absurd (hI.own b j k (ownv k hi) hj).symm j2
  ·exact (nb hj hi2).elim
  ·rw [i1, j1]
  ·exact absurd (hI.own b j k hi hj).symm j2
  ·exact absurd (hI.own i b k hi (ownv k hj)) i2
  ·exact absurd (hI.own i b k hi hj) i2
  ·exact hI.own i j k hi hj
 ·rw [show E'.h[n]? = some (.arr u rows true) from q1] at h
  cases h
  rfl
 ·unfold SlcAt
  rw [show E'.h[n]? = some (.arr u rows true) from q1]
  refine ⟨by simp, sz, A, cap, s1, s2, s3, ?_⟩
  rcases hr with ⟨_, _, h0⟩ | ⟨blk, o, c, T, h1, p1, p2, p3, p4, _⟩
  ·exact .inl h0
  ·exact .inr ⟨blk, o, c, T, by rw [← h1]; exact upd_same _ _ _, by simpa using p1, p3, by simpa using p4⟩

theorem lookup_run (hI : Inv P E) {t : TypeId} {al : Option Nat} {m k x : PV} {h' : Heap} (h : lookupOp P t al E.h m k = some (x, h')) (hal : AlOK E.h al) {vm vk : Value} (hm : Rep P E m vm) (hk : Rep P E k vk) :
  ∃ v w', (Instr.lookup t vm vk false).run P E.w = .ok v w' ∧ Res P E h' x v w' := by
 unfold lookupOp at h
 split at h
 ·rename_i b s
  cases hk
  split at h
  ·rename_i e es st hb
   split at h
   ·rename_i hmo
    cases hm with
    | mp _ _ hp =>
    unfold MapPtr at hp
    rw [hb] at hp
    obtain ⟨ob, hρ, rfl⟩ := hp
    have hB := hI.blk b
    unfold BlkAt at hB
    rw [hb] at hB
    obtain ⟨ob', eo, clock, r1, r2, r3, r4, r5, r6, r7, r8, r9⟩ := hB
    rw [hρ] at r1
    cases r1
    have he : ∀ i, i < es.length → ∃ k x, es.getD i [] = [.str k, x] ∧ (eo.getD i default).key = .string k := fun i hi => by
     obtain ⟨k, x, e1, e2, _⟩ := r5 i hi
     exact ⟨k, x, e1, e2⟩
    have sl : ∀ u, kdOf P e = .sl u → (∀ en, st.has en ∨ st = .fz) → ∃ v, (Instr.lookup t (.map (some ob)) (.string s) false).run P E.w = .ok v E.w ∧ SlcIn P E st u (lkM es s) v ∧
      ∀ blk, ArrOf v blk → ∃ j, j < es.length ∧ keyM (es.getD j []) = s ∧ ArrOf (eo.getD j default).val blk := by
     intro u hu hst
     obtain ⟨⟨inf, hi, hz⟩, sz, hs⟩ := valOK_sl r4 hu
     rcases map_find hmo r2 r3 he r6 hi hz s with ⟨f1, f2, _, f4, _⟩ | ⟨j, f1, f2, f3, _, f5, _⟩
     ·refine ⟨_, f4, ?_, fun blk ha => ?_⟩
      ·rw [show lkM es s = [] by unfold lkM; rw [f2]; rfl]
       exact ⟨sz, none, 0, hs, rfl, Nat.le_refl _, fun i hi => by simp at hi, .inl ⟨rfl, fun _ => rfl⟩⟩
      ·obtain ⟨o, n, cap, hv, _⟩ := ha
       cases hv
     ·obtain ⟨k, x, x1, x2, x3⟩ := r5 j f1
      have h3 := x3 (hst _)
      rw [hu] at h3
      obtain ⟨rows, y1, y2⟩ := h3
      refine ⟨_, f5, ?_, fun blk ha => ⟨j, f1, f2, ha⟩⟩
      rw [show lkM es s = rows by unfold lkM; rw [f3, x1, y1]; rfl]
      exact y2
    have bl : kdOf P e = .bool → (∀ en, st.has en ∨ st = .fz) → (Instr.lookup t (.map (some ob)) (.string s) false).run P E.w = .ok (.bool (lkB es s)) E.w := by
     intro hu hst
     obtain ⟨inf, hi, hz⟩ := valOK_bool r4 hu
     rcases map_find hmo r2 r3 he r6 hi hz s with ⟨f1, f2, _, f4, _⟩ | ⟨j, f1, f2, f3, _, f5, _⟩
     ·rw [f4, show lkB es s = false by unfold lkB; rw [f2]; rfl]
     ·obtain ⟨k, x, x1, x2, x3⟩ := r5 j f1
      have h3 := x3 (hst _)
      rw [hu] at h3
      obtain ⟨b, y1, y2⟩ := h3
      rw [f5, y2, show lkB es s = b by unfold lkB; rw [f3, x1, y1]; rfl]
    split at h
    ·rename_i u hu
     cases h
     obtain ⟨v, f1, f2, f3⟩ := sl u hu (fun _ => .inl trivial)
     exact ⟨v, E.w, f1, take_env hI hb hu hρ r2 hal f2 f3⟩
    ·rename_i u hu
     cases h
     obtain ⟨v, f1, f2, f3⟩ := sl u hu (fun _ => .inr rfl)
     refine ⟨v, E.w, f1, Res.same hI ?_⟩
     obtain ⟨sz, A, cap, s1, s2, s3, s4, s5⟩ := f2
     generalize lkM es s = rows at *
     rw [s2]
     rcases s5 with ⟨h0, h1⟩ | ⟨blk, o, c, T, p1, p2, p3, p4, p5, p6⟩
     ·have : rows = [] := List.eq_nil_of_length_eq_zero (by omega)
      subst this
      exact .lst0 u A cap h1
     ·subst p1
      exact .lst u rows blk o cap sz c T _ s1 p2 (p6 rfl) s3 (Nat.le_trans (Nat.add_le_add_left (Nat.mul_le_mul_right _ s3) _) p3) s4 p4
    ·rename_i hu
     cases h
     exact ⟨_, E.w, bl hu (fun _ => .inl trivial), Res.same hI (.bool _)⟩
    ·rename_i hu
     cases h
     exact ⟨_, E.w, bl hu (fun _ => .inr rfl), Res.same hI (.bool _)⟩
    ·cases h
   ·cases h
  ·cases h
 ·cases h

/-- what a map's entry takes in, and what becomes of the heap -/
theorem mapVal_spec (hI : Inv P E) {e : TypeId} {x y : PV} {h2 : Heap} (h : mapVal E.h (kdOf P e) x = some (y, h2)) {vx : Value} (hx : Rep P E x vx) (b : Nat) (hb : ∃ t es st, E.h[b]? = some (.map t es st)) :
  h2.length = E.h.length ∧ (∀ i : Nat, h2[i]? = E.h[i]? ∨ (i ≠ b ∧ h2[i]? = some .dead ∧ ∃ t es, E.h[i]? = some (.arr t es true))) ∧ (∀ k, ArrOf vx k → ∃ i, i ≠ b ∧ OwnB E i k ∧ h2[i]? = some .dead) ∧
   match kdOf P e with
   | .sl u => ∃ rows, y = .lst u rows ∧ SlcIn P E .live u rows vx
   | _ => ∃ b, y = .bool b ∧ vx = .bool b := by
 unfold mapVal at h
 split at h
 ·rename_i u b' hu
  rw [hu]
  split at h
  ·rename_i u' rows hb'
   split at h
   ·rename_i huu
    subst huu
    cases h
    have hne : b' ≠ b := by rintro rfl; obtain ⟨_, _, _, hb⟩ := hb; rw [hb'] at hb; cases hb
    have hdead : (E.h.set b' .dead)[b']? = some .dead := by simp [lt_of_some hb']
    cases hx with
    | all _ n _ hn hS =>
    have hn' := hn _ _ _ hb'
    subst hn'
    unfold SlcAt at hS
    rw [hb'] at hS
    obtain ⟨_, sz, A, cap, s1, s2, s3, s4⟩ := hS
    have hB := hI.blk b'
    unfold BlkAt at hB
    rw [hb'] at hB
    refine ⟨by simp, fun i => ?_, fun k ha => ⟨b', hne, ?_, hdead⟩, rows, rfl, sz, A, cap, s1, s2, s3, hB.1, ?_⟩
    ·by_cases e1 : i = b'
     ·subst e1; exact .inr ⟨hne, hdead, _, _, hb'⟩
     ·exact .inl (by rw [List.getElem?_set, if_neg (Ne.symm e1)])
    ·obtain ⟨o, n, cap', hv, hc⟩ := ha
     rw [s2] at hv
     cases hv
     rcases s4 with s4 | ⟨blk, o', c, T, p1, p2, p3, p4⟩
     ·exact absurd s4 hc
     ·cases p2
      exact .inl ⟨_, p1, .inl ⟨_, _, hb'⟩⟩
    ·by_cases h0 : cap = 0
     ·exact .inl ⟨h0, fun _ => h0⟩
     ·rcases s4 with s4 | ⟨blk, o', c, T, p1, p2, p3, p4⟩
      ·exact absurd s4 h0
      ·have h3 := hB.2
       rw [p1] at h3
       obtain ⟨sz', c', T', q1, q2, q3, q4, q5, q6⟩ := h3
       rw [s1] at q1
       cases q1
       rw [p3] at q2
       cases q2
       exact .inr ⟨blk, o', c, T, by simpa using p2, p3, by simpa using p4, q4, fun _ => q5 rfl, fun h => by cases h⟩
   ·cases h
  ·cases h
 ·rename_i v hu
  rw [hu]
  cases h
  cases hx
  exact ⟨rfl, fun i => .inl rfl, (fun k ha => by obtain ⟨_, _, _, hv, _⟩ := ha; cases hv), _, rfl, rfl⟩
 ·cases h

/-- an entry is written -/
theorem put_env (hI : Inv P E) {b ob clock clock' j : Nat} {e : TypeId} {es es' : List (List PV)} {eo eo' : Array MapEntry} {st : MS} {s : ByteArray} (hb : E.h[b]? = some (.map e es st)) (hst : st = .live ∨ st = .out s)
  (hρ : E.ρ b = some (ob, 0)) (r2 : E.w.heap[ob]? = some (.map eo clock)) {x y : PV} {h2 : Heap} (hv : mapVal E.h (kdOf P e) x = some (y, h2)) {vx : Value} (hx : Rep P E x vx) {en : MapEntry} (hen : en.key = .string s) (hev : en.val = vx)
  (hl : eo'.size = es'.length) (hat : ∀ i, i < es'.length → (i = j ∧ es'.getD i [] = [.str s, y] ∧ eo'.getD i default = en) ∨ (i ≠ j ∧ i < es.length ∧ es'.getD i [] = es.getD i [] ∧ eo'.getD i default = eo.getD i default))
  (hne : ∀ i, i < es.length → i ≠ j → keyM (es.getD i []) ≠ s) :
  Step P E (h2.set b (.map e es' .live)) { E.w with heap := E.w.heap.setIfInBounds ob (.map eo' clock') } fun _ => True := by
 obtain ⟨v1, v2, v3, v4⟩ := mapVal_spec hI hv hx b ⟨_, _, _, hb⟩
 have hfz : st ≠ .fz := by rcases hst with rfl | rfl <;> intro h <;> cases h
 have hhas : ∀ i, i < es.length → i ≠ j → st.has (es.getD i []) := by
  intro i hi hij
  rcases hst with rfl | rfl
  ·trivial
  ·exact hne i hi hij
 have hB := hI.blk b
 unfold BlkAt at hB
 rw [hb] at hB
 obtain ⟨ob', eo0, clock0, r1, r2', r3, r4, r5, r6, r7, r8, r9⟩ := hB
 rw [hρ] at r1
 cases r1
 rw [r2] at r2'
 cases r2'
 have hobown : OwnB E b ob := .inr ⟨e, es, st, ob, eo, clock, hb, hfz, hρ, r2, .inl rfl⟩
 have hold : ∀ i k, i < es.length → i ≠ j → ArrOf (eo.getD i default).val k → OwnB E b k := fun i k hi hij ha =>
  .inr ⟨e, es, st, ob, eo, clock, hb, hfz, hρ, r2, .inr ⟨i, hi, hhas i hi hij, ha⟩⟩
 have hobl := heap_lt r2
 let w' : World := { E.w with heap := E.w.heap.setIfInBounds ob (.map eo' clock') }
 have hw1 : w'.heap[ob]? = some (.map eo' clock') := by show (E.w.heap.setIfInBounds ob _)[ob]? = _; simp [hobl]
 have hw2 : ∀ k, k ≠ ob → w'.heap[k]? = E.w.heap[k]? := fun k hk => by show (E.w.heap.setIfInBounds ob _)[k]? = _; simp [Ne.symm hk]
 let E' : Env := { w := w', h := h2.set b (.map e es' .live), ρ := E.ρ, im := E.im }
 have hb' : E'.h[b]? = some (.map e es' .live) := by show (h2.set b _)[b]? = _; simp [v1, lt_of_some hb]
 have ho' : ∀ i, i ≠ b → E'.h[i]? = h2[i]? := fun i hi => by show (h2.set b _)[i]? = _; rw [List.getElem?_set, if_neg (Ne.symm hi)]
 have conv : ∀ i k, OwnB E' i k → (i = b ∧ (OwnB E b k ∨ ArrOf vx k)) ∨ (i ≠ b ∧ h2[i]? = E.h[i]? ∧ E'.h[i]? ≠ some .dead ∧ OwnB E i k) := by
  intro i k h
  by_cases e1 : i = b
  ·subst e1
   refine .inl ⟨rfl, ?_⟩
   rcases h with ⟨o, _, ⟨_, _, k1⟩ | ⟨_, _, k1⟩⟩ | ⟨t', es2, st', ob', eo2, cl', k1, k2, k3, k4, k5⟩
   ·rw [hb'] at k1; cases k1
   ·rw [hb'] at k1; cases k1
   ·rw [hb'] at k1
    cases k1
    have k3' : E.ρ i = some (ob', 0) := k3
    rw [hρ] at k3'
    cases k3'
    have k4' : w'.heap[ob]? = some (.map eo2 cl') := k4
    rw [hw1] at k4'
    cases k4'
    rcases k5 with rfl | ⟨q, hq, _, ha⟩
    ·exact .inl hobown
    ·rcases hat q hq with ⟨_, _, a3⟩ | ⟨a1, a2, _, a4⟩
     ·rw [a3, hev] at ha; exact .inr ha
     ·rw [a4] at ha; exact .inl (hold q k a2 a1 ha)
  ·rcases v2 i with h0 | ⟨_, h0, _⟩
   ·have hk := OwnB.keep (E := E) (E' := E') (by rw [ho' i e1, h0]) rfl (fun ob2 hρ2 hm2 => hw2 ob2 (by
     rintro rfl
     obtain ⟨t3, es3, st3, hm3⟩ := hm2
     by_cases hz : st3 = .fz
     ·have hB3 := hI.blk i
      unfold BlkAt at hB3
      rw [hm3] at hB3
      obtain ⟨ob3, _, _, z1, _, _, _, _, _, _, _, z9⟩ := hB3
      rw [hρ2] at z1
      cases z1
      exact r8 hfz (z9 hz)
     ·obtain ⟨eo3, cl3, hw3⟩ := hI.mapOb hρ2 ⟨t3, es3, st3, hm3⟩
      exact e1 (hI.own i b ob2 (.inr ⟨t3, es3, st3, ob2, eo3, cl3, hm3, hz, hρ2, hw3, .inl rfl⟩) hobown))) h
    refine .inr ⟨e1, h0, ?_, hk⟩
    rw [ho' i e1, h0]
    intro hd
    rcases hk with ⟨_, _, ⟨_, _, k1⟩ | ⟨_, _, k1⟩⟩ | ⟨_, _, _, _, _, _, k1, _⟩ <;> rw [hd] at k1 <;> cases k1
   ·have hd : E'.h[i]? = some .dead := by rw [ho' i e1, h0]
    rcases h with ⟨_, _, ⟨_, _, k1⟩ | ⟨_, _, k1⟩⟩ | ⟨_, _, _, _, _, _, k1, _⟩ <;> rw [hd] at k1 <;> cases k1
 have hT : Trans E E' := by
  refine ⟨fun i => ?_, fun _ _ _ _ => rfl, fun _ h => h, by show _ ≤ (E.w.heap.setIfInBounds ob _).size; simp, rfl, rfl, rfl, fun blk _ ho => hw2 blk ?_, fun blk c T fz h => ⟨c, ?_, rfl⟩, fun blk _ ho => ?_, fun _ _ h => .inl h⟩
  ·by_cases e1 : i = b
   ·subst e1; rw [hb, hb']; exact ⟨rfl, fun h => absurd h hfz⟩
   ·rw [ho' i e1]
    rcases v2 i with h0 | ⟨_, h0, t, es, h3⟩
    ·rw [h0]; exact Compat.refl _
    ·rw [h0, h3]; trivial
  ·rintro rfl; exact ho ⟨b, hobown⟩
  ·rw [show E'.w = w' from rfl, hw2 blk (by rintro rfl; rw [r2] at h; cases h)]; exact h
  ·obtain ⟨i, h⟩ := ho
   rcases conv i blk h with ⟨_, h | h⟩ | ⟨_, _, _, h⟩
   ·exact ⟨b, h⟩
   ·obtain ⟨i, _, h, _⟩ := v3 blk h; exact ⟨i, h⟩
   ·exact ⟨i, h⟩
 refine ⟨E', rfl, rfl, hT, ⟨fun i => ?_, fun i i' k hi hj => ?_, fun blk hm => ?_, hI.tabT hT⟩, trivial⟩
 ·by_cases e1 : i = b
  ·subst e1
   unfold BlkAt
   rw [hb']
   have arr_ob : ∀ k, ArrOf vx k → k ≠ ob := by
    rintro k ha rfl
    obtain ⟨q, hq, hown, _⟩ := v3 k ha
    exact hq (hI.own q i k hown hobown)
   refine ⟨ob, eo', clock', hρ, hw1, hl, r4, fun q hq => ?_, fun q q' hq hq' hk => ?_, fun q q' blk hq hq' _ _ ha ha' => ?_, fun _ => r8 hfz, fun h => by cases h⟩
   ·rcases hat q hq with ⟨a1, a2, a3⟩ | ⟨a1, a2, a3, a4⟩
    ·rw [a2, a3]
     refine ⟨s, y, rfl, hen, fun _ => ?_⟩
     rw [hev]
     split
     ·rename_i u hu
      rw [hu] at v4
      obtain ⟨rows, y1, y2⟩ := v4
      exact ⟨rows, y1, y2.keep hI hT (fun k ha => hw2 k (arr_ob k ha)) (fun _ _ _ h => h)⟩
     ·rename_i hu
      split at v4
      ·rename_i u hu2; exact absurd hu2 (hu u)
      ·exact v4
    ·rw [a3, a4]
     obtain ⟨k, z, x1, x2, x3⟩ := r5 q a2
     refine ⟨k, z, x1, x2, fun _ => ?_⟩
     have h3 := x3 (.inl (hhas q a2 a1))
     split
     ·rename_i u hu
      rw [hu] at h3
      obtain ⟨rows, y1, y2⟩ := h3
      refine ⟨rows, y1, ?_⟩
      have y2' : SlcIn P E .live u rows (eo.getD q default).val := by
       obtain ⟨sz', A', cap', z1, z2, z3, z4, z5⟩ := y2
       refine ⟨sz', A', cap', z1, z2, z3, z4, ?_⟩
       rcases z5 with z5 | ⟨blk, o, c, T, y1, y2, y3, y4, y5, y6⟩
       ·exact .inl z5
       ·exact .inr ⟨blk, o, c, T, y1, y2, y3, y4, fun _ => y5 hfz, fun h => by cases h⟩
      refine y2'.keep hI hT (fun k ha => hw2 k ?_) (fun _ _ _ h => h)
      rintro rfl
      obtain ⟨c, T, hc⟩ := y2'.cells ha
      rw [r2] at hc
      cases hc
     ·rename_i hu
      split at h3
      ·rename_i u hu2; exact absurd hu2 (hu u)
      ·exact h3
   ·rcases hat q hq with ⟨a1, a2, a3⟩ | ⟨a1, a2, a3, a4⟩ <;> rcases hat q' hq' with ⟨b1, b2, b3⟩ | ⟨b1, b2, b3, b4⟩
    ·rw [a1, b1]
    ·rw [a2, b3] at hk; exact absurd hk.symm (hne q' b2 b1)
    ·rw [a3, b2] at hk; exact absurd hk (hne q a2 a1)
    ·rw [a3, b3] at hk; exact r6 q q' a2 b2 hk
   ·have clash : ∀ k q, q < es.length → q ≠ j → ArrOf vx k → ArrOf (eo.getD q default).val k → False := by
     intro k q hq hqj h1 h2
     obtain ⟨p, hp, hown, _⟩ := v3 k h1
     exact hp (hI.own p i k hown (hold q k hq hqj h2))
    rcases hat q hq with ⟨a1, a2, a3⟩ | ⟨a1, a2, a3, a4⟩ <;> rcases hat q' hq' with ⟨b1, b2, b3⟩ | ⟨b1, b2, b3, b4⟩
    ·rw [a1, b1]
    ·rw [a3, hev] at ha; rw [b4] at ha'; exact (clash _ _ b2 b1 ha ha').elim
    ·rw [a4] at ha; rw [b3, hev] at ha'; exact (clash _ _ a2 a1 ha' ha).elim
    ·rw [a4] at ha; rw [b4] at ha'; exact r7 q q' blk a2 b2 (hhas q a2 a1) (hhas q' b2 b1) ha ha'
  ·rcases v2 i with h0 | ⟨_, h0, _⟩
   ·exact (hI.blk i).keep hI hT (by rw [ho' i e1, h0]) rfl (fun k hh _ => hw2 k (hh.ne hI hobown e1)) (fun _ _ h => h)
   ·unfold BlkAt
    rw [ho' i e1, h0]
    trivial
 ·have clash : ∀ i k, i ≠ b → E'.h[i]? ≠ some .dead → OwnB E i k → (OwnB E b k ∨ ArrOf vx k) → False := by
   intro i k h1 hd h2 h3
   rcases h3 with h3 | h3
   ·exact h1 (hI.own i b k h2 h3)
   ·obtain ⟨p, hp, hown, hpd⟩ := v3 k h3
    have := hI.own i p k h2 hown
    subst this
    exact hd (by rw [ho' i h1, hpd])
  rcases conv i k hi with ⟨i1, hi⟩ | ⟨i1, i2, i3, hi⟩ <;> rcases conv i' k hj with ⟨j1, hj⟩ | ⟨j1, j2, j3, hj⟩
  ·rw [i1, j1]
  ·exact (clash i' k j1 j3 hj hi).elim
  ·exact (clash i k i1 i3 hi hj).elim
  ·exact hI.own i i' k hi hj
 ·show blk < (E.w.heap.setIfInBounds ob _).size
  simpa using hI.imlt blk hm

theorem mapUpdate_run (hI : Inv P E) {t : TypeId} {m k x : PV} {h' : Heap} (h : mapUpdateOp P t E.h m k x = some h') {vm vk vx : Value} (hm : Rep P E m vm) (hk : Rep P E k vk) (hx : Rep P E x vx) :
  ∃ w', (Instr.mapUpdate t vm vk vx).run P E.w = .ok () w' ∧ Step P E h' w' fun _ => True := by
 unfold mapUpdateOp at h
 split at h
 ·rename_i b s
  cases hk
  split at h
  ·rename_i e es st hb
   split at h
   ·rename_i hmo
    cases hm with
    | mp _ _ hp =>
    unfold MapPtr at hp
    rw [hb] at hp
    obtain ⟨ob, hρ, rfl⟩ := hp
    have hB := hI.blk b
    unfold BlkAt at hB
    rw [hb] at hB
    obtain ⟨ob', eo, clock, r1, r2, r3, r4, r5, r6, r7, r8, r9⟩ := hB
    rw [hρ] at r1
    cases r1
    have he : ∀ i, i < es.length → ∃ k x, es.getD i [] = [.str k, x] ∧ (eo.getD i default).key = .string k := fun i hi => by
     obtain ⟨k, x, e1, e2, _⟩ := r5 i hi
     exact ⟨k, x, e1, e2⟩
    have hz : ∃ inf zv, P.info? e = some inf ∧ inf.zero = some zv := by
     rcases valOK_kd r4 with ⟨u, hu⟩ | hu
     ·obtain ⟨⟨i, h1, h2⟩, _⟩ := valOK_sl r4 hu; exact ⟨_, _, h1, h2⟩
     ·obtain ⟨i, h1, h2⟩ := valOK_bool r4 hu; exact ⟨_, _, h1, h2⟩
    obtain ⟨inf, zv, hi, hz⟩ := hz
    have key : (st = .live ∨ st = .out s) → (mapVal E.h (kdOf P e) x).map (fun r => r.2.set b (.map e (putM es s r.1) .live)) = some h' →
      ∃ w', (Instr.mapUpdate t (.map (some ob)) (.string s) vx).run P E.w = .ok () w' ∧ Step P E h' w' fun _ => True := by
     intro hst h
     cases hv : mapVal E.h (kdOf P e) x with
     | none => simp [hv] at h
     | some r =>
      obtain ⟨y, h2⟩ := r
      simp only [hv, Option.map_some, Option.some.injEq] at h
      subst h
      rcases map_find hmo r2 r3 he r6 hi hz s with ⟨f1, _, f3, _, f5⟩ | ⟨j, f1, f2, _, f4, _, f6⟩
      ·refine ⟨_, f5 vx, ?_⟩
       rw [f3]
       refine put_env (j := es.length) hI hb hst hρ r2 hv hx (en := { key := .string s, val := vx, born := clock }) rfl rfl (by simp [r3]) (fun i hi => ?_) (fun i hi _ => f1 i hi)
       have hi' : i < es.length + 1 := by simpa using hi
       by_cases hil : i < es.length
       ·refine .inr ⟨by omega, hil, ?_, ?_⟩
        ·simp [List.getD, List.getElem?_append_left hil]
        ·have : i ≠ eo.size := by omega
         simp [Array.getD, Array.getElem_push, r3, hil, hi']
       ·have hie : i = es.length := by omega
        subst hie
        refine .inl ⟨rfl, by simp [List.getD], ?_⟩
        rw [← r3]
        simp [Array.getD]
      ·obtain ⟨en, e1, e2, f6⟩ := f6 vx
       refine ⟨_, f6, ?_⟩
       rw [f4]
       refine put_env (j := j) hI hb hst hρ r2 hv hx e1 e2 (by simp [r3]) (fun i hi => ?_) (fun i hi hij heq => hij (r6 i j hi f1 (heq.trans f2.symm)))
       have hi' : i < es.length := by simpa using hi
       by_cases hij : i = j
       ·subst hij
        refine .inl ⟨rfl, by simp [List.getD, hi'], ?_⟩
        simp [Array.getD, r3, hi']
       ·refine .inr ⟨hij, hi', ?_, ?_⟩
        ·simp [List.getD, List.getElem?_set, Ne.symm hij]
        ·simp [Array.getD, r3, hi', Array.getElem_setIfInBounds, Ne.symm hij]
    split at h
    ·exact key (.inl rfl) h
    ·rename_i k0
     split at h
     ·rename_i hsk
      subst hsk
      exact key (.inr rfl) h
     ·cases h
    ·cases h
   ·cases h
  ·cases h
 ·cases h


theorem run_newVar' (t : TypeId) (v : Value) (w : World) : (newVar t v).run P w = .ok ⟨w.heap.size, 0, none⟩ (w.alloc (.cells v.cells t)) := by
 simp [newVar, newRow]

theorem doOp_wp {C : CallF} (hN : Named P) (hC : CallsOK P C) {M : FuncId → Bool} {al : Option Nat} {ts : List PV} {a : Act} {o : Oper} {x : PV} {h' : Heap} {Q : Exit → Act → World → Prop}
  (h : doOp P C M al ts E.h o.op = some (x, h')) (hI : Inv P E) (hT : RepT P E ts a) (hal : AlOK E.h al) : o.wp P a E.w (OpPost P E h' x o.dst a) Q := by
 unfold doOp at h
 split at h
 ·rename_i y ho
  cases h
  unfold Oper.wp
  simp only [execOp, ho, Sem.run_pure, Oper.upon_value]
  exact ⟨_, E, rfl, rfl, rfl, Trans.refl E, hI, hT.ev y⟩
 ·rename_i y ho
  cases h
  unfold Oper.wp
  simp only [execOp, ho, Sem.run_pure, Oper.upon_value]
  exact ⟨_, E, rfl, rfl, rfl, Trans.refl E, hI, hT.ev y⟩
 ·rename_i c p q ho
  have hc := hT.ev c
  split at h
  ·rename_i hb
   rw [hb] at hc
   cases h
   unfold Oper.wp
   simp only [execOp, ho, hc.bool_inv, asBool, Sem.run_bind, Sem.run_pure, Result.andThen_ok, Oper.upon_value]
   exact ⟨_, E, rfl, rfl, rfl, Trans.refl E, hI, by simpa using hT.ev p⟩
  ·rename_i hb
   rw [hb] at hc
   cases h
   unfold Oper.wp
   simp only [execOp, ho, hc.bool_inv, asBool, Sem.run_bind, Sem.run_pure, Result.andThen_ok, Oper.upon_value]
   exact ⟨_, E, rfl, rfl, rfl, Trans.refl E, hI, by simpa using hT.ev q⟩
  ·simp at h
 ·rename_i t ho
  cases hz : zeroPV P t with
  | none => simp [hz] at h
  | some z =>
   simp only [hz, Option.map_some, Option.some.injEq, Prod.mk.injEq] at h
   obtain ⟨rfl, rfl⟩ := h
   unfold zeroPV at hz
   cases hi : P.info? t with
   | none => simp [hi] at hz
   | some i =>
    cases hiz : i.zero with
    | none => simp [hi, hiz] at hz
    | some zv =>
     simp [hi, hiz] at hz
     subst hz
     refine value_wp (s := Instr.alloc t true (.tuple #[])) (by simp [execOp, ho]) ?_ (add_box hI hal t t (ofConst_cells zv))
     simp [Instr.alloc, run_zeroValue E.w hi hiz, run_newVar']
 ·rename_i t y ho
  split at h
  ·rename_i hok
   simp only [Option.some.injEq, Prod.mk.injEq] at h
   obtain ⟨rfl, rfl⟩ := h
   refine value_wp (s := Instr.box t (a.eval y)) (by simp [execOp, ho]) ?_ (add_box hI hal t t (okv_cells (hT.ev y) hok))
   simp [Instr.box, run_newVar']
  ·simp at h
 ·rename_i t ps ho
  obtain ⟨h1, rfl⟩ := keep_some h
  obtain ⟨hl, hq⟩ := hT.evp ps
  obtain ⟨v, e1, e2⟩ := buildOp_run h1 hl hq E.w
  exact value_wp (by simp [execOp, ho]) e1 (Res.same hI e2)
 ·rename_i t n ps ho
  obtain ⟨hl, hq⟩ := hT.evp ps
  obtain ⟨v, w', e1, e2⟩ := buildSlice_run hI h hal hl hq
  exact value_wp (by simp [execOp, ho]) e1 e2
 ·rename_i t p ho
  obtain ⟨h1, rfl⟩ := keep_some h
  obtain ⟨v, e1, e2⟩ := loadOp_run hI h1 (hT.ev p)
  exact value_wp (by simp [execOp, ho]) e1 (Res.same hI e2)
 ·rename_i t p y ho
  cases hs : storeOp P t E.h (ev ts p) (ev ts y) with
  | none => simp [hs] at h
  | some h2 =>
   simp [hs] at h
   obtain ⟨rfl, rfl⟩ := h
   obtain ⟨w', e1, e2⟩ := storeOp_run hI hs (hT.ev p) (hT.ev y)
   exact skip_wp (by simp [execOp, ho]) e1 e2
 ·rename_i y ho
  have hy := hT.ev y
  split at h
  ·rename_i f cs hb
   cases h
   rw [hb] at hy
   have hy2 := hy
   generalize hv : a.eval y = v at hy hy2
   cases hy with
   | fn _ _ vs hl hr =>
    unfold Oper.wp
    simp only [execOp, ho, hv, Sem.run_pure, Oper.upon_value]
    exact ⟨_, E, rfl, rfl, rfl, Trans.refl E, hI, hy2⟩
  ·split at h
   ·rename_i hok
    cases h
    obtain ⟨blk, k, hv⟩ := alive_ptr hok hy
    unfold Oper.wp
    rw [hv] at hy
    simp only [execOp, ho, hv, Sem.run_pure, Oper.upon_value]
    exact ⟨_, E, rfl, rfl, rfl, Trans.refl E, hI, hy⟩
   ·simp at h
 ·rename_i op t p q pos ho
  obtain ⟨h1, rfl⟩ := keep_some h
  obtain ⟨v, e1, e2⟩ := binOp_run h1 (hT.ev p) (hT.ev q) E.w p q
  exact value_wp (by simp [execOp, ho]) e1 (Res.same hI e2)
 ·rename_i op t p ho
  obtain ⟨h1, rfl⟩ := keep_some h
  obtain ⟨v, e1, e2⟩ := unOp_run h1 (hT.ev p) E.w
  exact value_wp (by simp [execOp, ho]) e1 (Res.same hI e2)
 ·rename_i s d p ho
  obtain ⟨h1, rfl⟩ := keep_some h
  obtain ⟨v, e1, e2⟩ := convertOp_run hI h1 (hT.ev p)
  exact value_wp (by simp [execOp, ho]) e1 (Res.same hI e2)
 ·rename_i f first caps ho
  split at h
  ·rename_i hz
   cases h
   have hfe : first = #[] := Array.eq_empty_of_size_eq_zero hz
   subst hfe
   have hL := hT.evs caps
   unfold Oper.wp
   simp only [execOp, ho, Instr.makeFunc, Sem.run_bind, Sem.run_pure, Result.andThen_ok, Oper.upon_value]
   refine ⟨_, E, rfl, rfl, rfl, Trans.refl E, hI, ?_⟩
   simp only [Array.map_empty]
   exact .fn f _ _ (by simpa using hL.1) fun i hi => by simpa using hL.2 i hi
  ·simp at h
 ·rename_i t l c ho
  obtain ⟨v, w', e1, e2⟩ := makeSlice_run hI h hal (hT.ev l) (hT.ev c)
  exact value_wp (by simp [execOp, ho]) e1 e2
 ·rename_i t ho
  obtain ⟨v, w', e1, e2⟩ := makeMap_run hI h hal
  exact value_wp (by simp [execOp, ho]) e1 e2
 ·rename_i t m k ho
  obtain ⟨v, w', e1, e2⟩ := lookup_run hI h hal (hT.ev m) (hT.ev k)
  exact value_wp (by simp [execOp, ho]) e1 e2
 ·rename_i t m k y ho
  cases hs : mapUpdateOp P t E.h (ev ts m) (ev ts k) (ev ts y) with
  | none => simp [hs] at h
  | some h2 =>
   simp [hs] at h
   obtain ⟨rfl, rfl⟩ := h
   obtain ⟨w', e1, e2⟩ := mapUpdate_run hI hs (hT.ev m) (hT.ev k) (hT.ev y)
   exact skip_wp (by simp [execOp, ho]) e1 e2
 ·rename_i t y lo hi mx ho
  obtain ⟨h1, rfl⟩ := keep_some h
  obtain ⟨v, e1, e2⟩ := sliceOp_run hI h1 (hT.ev y) (hT.evo lo).1 (hT.evo lo).2 (hT.evo hi).1 (hT.evo hi).2 (hT.evo mx).1 (hT.evo mx).2 E.w
  exact value_wp (by simp [execOp, ho]) e1 (Res.same hI e2)
 ·rename_i t y f ho
  obtain ⟨h1, rfl⟩ := keep_some h
  obtain ⟨v, e1, e2⟩ := fieldAddrOp_run h1 (hT.ev y) E.w
  exact value_wp (by simp [execOp, ho]) e1 (Res.same hI e2)
 ·rename_i t y f ho
  obtain ⟨h1, rfl⟩ := keep_some h
  obtain ⟨v, e1, e2⟩ := fieldOp_run h1 (hT.ev y) E.w
  exact value_wp (by simp [execOp, ho]) e1 (Res.same hI e2)
 ·rename_i t y i ho
  obtain ⟨h1, rfl⟩ := keep_some h
  obtain ⟨v, e1, e2⟩ := indexAddrOp_run hI h1 (hT.ev y) (hT.ev i) E.w
  exact value_wp (by simp [execOp, ho]) e1 (Res.same hI e2)
 ·rename_i t y i ho
  obtain ⟨h1, rfl⟩ := keep_some h
  obtain ⟨v, e1, e2⟩ := indexOp_run h1 (hT.ev y) (hT.ev i) E.w
  exact value_wp (by simp [execOp, ho]) e1 (Res.same hI e2)
 ·rename_i y j ho
  have hy := hT.ev y
  split at h
  ·rename_i vs hb
   obtain ⟨h1, rfl⟩ := keep_some h
   rw [hb] at hy
   generalize hv : a.eval y = v at hy
   cases hy with
   | tuple _ us hl hr =>
    have hj : j < vs.length := by
     rcases Nat.lt_or_ge j vs.length with h2 | h2
     ·exact h2
     ·rw [List.getElem?_eq_none h2] at h1; cases h1
    have hju : j < us.size := by omega
    have hrep := hr j hj
    refine value_wp (s := Instr.extract (a.eval y) j) (v := us.getD j undef) (by simp [execOp, ho]) ?_ (Res.same hI (by simpa [List.getD, h1] using hrep))
    simp [Instr.extract, hv, hju, Array.getD]
  ·simp at h
 ·rename_i c ho
  split at h
  ·rename_i b hc
   exact builtin_wp ho hc h hI hT hal
  ·rename_i f hc
   split at h
   ·rename_i g caps hf
    split at h
    ·rename_i e he
     exact extern_wp ho hc hf he h hI hT
    ·exact call_wp hN hC ho hc hf h hI hT
   ·simp at h
  ·rename_i y name hc
   split at h
   ·rename_i g r hg
    exact invoke_wp hN hC ho hc hg h hI hT
   ·simp at h
 ·rename_i t y ho
  obtain ⟨h1, rfl⟩ := keep_some h
  obtain ⟨v, e1, e2⟩ := ifaceOp_run h1 (hT.ev y) E.w
  exact value_wp (by simp [execOp, ho]) e1 (Res.same hI e2)
 ·simp at h

end
end Go.Pu
