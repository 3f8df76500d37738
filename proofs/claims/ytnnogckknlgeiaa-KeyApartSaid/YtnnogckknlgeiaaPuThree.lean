/- The pure machine, part three: its second form, by which equations are printed, loops told round by round. No condition but those that each theorem names. -/
import Derived.Test.YtnnogckknlgeiaaPuTwo
section
/- The pure machine: more fuel tells the same. -/
set_option linter.unusedSimpArgs false
set_option linter.unusedVariables false
namespace Go.Pu

def Below' (C C' : CallF) : Prop := ∀ f xs hc y, C f xs hc = some y → C' f xs hc = some y

section
variable {P : Program} {C C' : CallF} {M : FuncId → Bool} {R R' : Type}

theorem callCore_mono (hC : Below' C C') {al : Option Nat} {h : Heap} {f : FuncId} {xs : List PV} {v : (PV × Heap) × Foot} (hk : callCore P C M al h f xs = some v) : callCore P C' M al h f xs = some v := by
  unfold callCore at hk ⊢
  obtain ⟨ys, e1, hk⟩ := Option.bind_eq_some_iff.1 hk
  obtain ⟨ids, e2, hk⟩ := Option.bind_eq_some_iff.1 hk
  rw [e1]
  simp only [Option.bind_some]
  rw [e2]
  simp only [Option.bind_some]
  split at hk
  · rename_i hsh
    obtain ⟨y, e3, hk⟩ := Option.bind_eq_some_iff.1 hk
    refine (if_pos hsh).trans ?_
    rw [hC _ _ _ _ e3]
    exact hk
  · cases hk

theorem doOp_mono (hC : Below' C C') {al : Option Nat} {ts : List PV} {h : Heap} {op : Op} {v : PV × Heap} (hk : doOp P C M al ts h op = some v) : doOp P C' M al ts h op = some v := by
  cases op
  case call c =>
    simp only [doOp] at hk ⊢
    split at hk
    · exact hk
    · rename_i f hc
      split at hk
      · rename_i g caps hg
        unfold callOp at hk ⊢
        cases hcc : callCore P C M al h g (evs ts c.args ++ caps) with
        | none => rw [hcc] at hk; cases hk
        | some q => rw [hcc] at hk; rw [callCore_mono hC hcc]; exact hk
      · cases hk
    · cases hk
  case makeFunc fn first caps => cases fn <;> exact hk
  all_goals exact hk

theorem doOpF_mono (hC : Below' C C') {al : Option Nat} {ts : List PV} {h : Heap} {op : Op} {v : (PV × Heap) × Foot} (hk : doOpF P C M al ts h op = some v) : doOpF P C' M al ts h op = some v := by
  have base : (doOp P C M al ts h op).map (fun r => (r, footOp al ts op)) = some v → (doOp P C' M al ts h op).map (fun r => (r, footOp al ts op)) = some v := by
    intro hk
    cases hd : doOp P C M al ts h op with
    | none => rw [hd] at hk; cases hk
    | some q => rw [hd] at hk; rw [doOp_mono hC hd]; exact hk
  unfold doOpF at hk ⊢
  split at hk
  · rename_i c
    split at hk
    · rename_i f hc
      split at hk
      · exact callCore_mono hC hk
      · cases hk
    · exact base hk
  · exact base hk

theorem doOpG_mono (hC : Below' C C') {al : Option Nat} {ts : List PV} {h : Heap} {op : Op} {v : (PV × Heap) × Foot} (hk : doOpG P C M al ts h op = some v) : doOpG P C' M al ts h op = some v := by
  unfold doOpG at hk ⊢
  split at hk
  · rename_i ha
    rw [if_pos ha]
    cases hd : doOpF P C M al ts h op with
    | none => rw [hd] at hk; cases hk
    | some q => rw [hd] at hk; rw [doOpF_mono hC hd]; exact hk
  · cases hk

def KLe (k k' : List PV → Heap → Option R) : Prop := ∀ ts h r, k ts h = some r → k' ts h = some r
def KLeE (k k' : Ex → List PV → Heap → Option R) : Prop := ∀ e ts h r, k e ts h = some r → k' e ts h = some r

theorem runOps_mono (hC : Below' C C') {ops : Array Oper} {k k' : List PV → Heap → Option R} (hs : KLe k k') : ∀ (rest : List Oper) (ts : List PV) (h : Heap) (r : R), runOps P C M ops rest ts h k = some r → runOps P C' M ops rest ts h k' = some r
  | [], ts, h, r, hk => hs ts h r hk
  | o :: rest, ts, h, r, hk => by
    have go : ∀ ts, ((doOp P C M none ts h o.op).bind fun r => runOps P C M ops rest (put ts o.dst r.1) r.2 k) = some r → ((doOp P C' M none ts h o.op).bind fun r => runOps P C' M ops rest (put ts o.dst r.1) r.2 k') = some r := by
      intro ts hk
      obtain ⟨v, e1, e2⟩ := Option.bind_eq_some_iff.1 hk
      rw [doOp_mono hC e1]
      exact runOps_mono hC hs rest _ _ _ e2
    unfold runOps at hk ⊢
    dsimp only at hk ⊢
    split at hk
    · exact go ts hk
    · split at hk
      · cases hk
      · split at hk
        · split at hk
          · rename_i hbt
            simp only [hbt, if_true] at hk ⊢
            split at hk
            · rename_i hw; rw [if_pos hw]; exact go _ hk
            · rename_i hw; rw [if_neg hw]; exact runOps_mono hC hs rest _ _ _ hk
          · rename_i hbt
            rw [if_neg hbt]
            split at hk
            · rename_i hw; rw [if_pos hw]; exact runOps_mono hC hs rest _ _ _ hk
            · rename_i hw; rw [if_neg hw]; exact go _ hk
        · exact runOps_mono hC hs rest _ _ _ hk
        · cases hk

theorem runDraw_mono (hC : Below' C C') {ops : Array Oper} {k k' : List PV → Heap → Option R} (hs : KLe k k') : ∀ (rest : List Oper) (s : Nat) (Fs : List Foot) (ts : List PV) (h : Heap) (r : R), runDraw P C M ops rest s Fs ts h k = some r →
    runDraw P C' M ops rest s Fs ts h k' = some r
  | [], s, Fs, ts, h, r, hk => by
    simp only [runDraw] at hk ⊢
    split at hk
    · rename_i hd; rw [if_pos hd]; exact hs ts h r hk
    · cases hk
  | o :: rest, s, Fs, ts, h, r, hk => by
    have go : ∀ ts, ((doOpG P C M (slotAt o s) ts h o.op).bind fun r => runDraw P C M ops rest (s + slotsOf o.op) (Fs ++ [r.2]) (put ts o.dst r.1.1) r.1.2 k) = some r →
        ((doOpG P C' M (slotAt o s) ts h o.op).bind fun r => runDraw P C' M ops rest (s + slotsOf o.op) (Fs ++ [r.2]) (put ts o.dst r.1.1) r.1.2 k') = some r := by
      intro ts hk
      obtain ⟨v, e1, e2⟩ := Option.bind_eq_some_iff.1 hk
      rw [doOpG_mono hC e1]
      exact runDraw_mono hC hs rest _ _ _ _ _ e2
    unfold runDraw at hk ⊢
    dsimp only at hk ⊢
    split at hk
    · exact go ts hk
    · split at hk
      · cases hk
      · split at hk
        · split at hk
          · rename_i hbt
            simp only [hbt, if_true] at hk ⊢
            split at hk
            · rename_i hw; rw [if_pos hw]; exact go _ hk
            · rename_i hw; rw [if_neg hw]; exact runDraw_mono hC hs rest _ _ _ _ _ hk
          · rename_i hbt
            rw [if_neg hbt]
            split at hk
            · rename_i hw; rw [if_pos hw]; exact runDraw_mono hC hs rest _ _ _ _ _ hk
            · rename_i hw; rw [if_neg hw]; exact go _ hk
        · exact runDraw_mono hC hs rest _ _ _ _ _ hk
        · cases hk

theorem loopN_mono {runA runB : List PV → Heap → (Ex → List PV → Heap → Option R) → Option R} {clean : Ex → List PV → Heap → Option (List PV × Heap)} (hr : ∀ ts h k k' r, KLeE k k' → runA ts h k = some r → runB ts h k' = some r)
    {k k' : Ex → List PV → Heap → Option R} (hs : KLeE k k') : ∀ (n n' : Nat) (ts : List PV) (h : Heap) (r : R), n ≤ n' → loopN runA clean n ts h k = some r → loopN runB clean n' ts h k' = some r
  | 0, _, _, _, _, _, hk => by cases hk
  | n + 1, 0, _, _, _, hn, _ => by omega
  | n + 1, n' + 1, ts, h, r, hn, hk => by
    simp only [loopN] at hk ⊢
    obtain ⟨c, e1, e2⟩ := Option.bind_eq_some_iff.1 hk
    rw [e1]
    simp only [Option.bind_some]
    refine hr _ _ _ _ _ ?_ e2
    intro e ts' h' r' hk'
    cases e with
    | normal => exact loopN_mono hr hs n n' ts' h' r' (by omega) hk'
    | exit i =>
      obtain ⟨c2, f1, f2⟩ := Option.bind_eq_some_iff.1 hk'
      exact Option.bind_eq_some_iff.2 ⟨c2, f1, hs _ _ _ _ f2⟩
    | ret =>
      obtain ⟨c2, f1, f2⟩ := Option.bind_eq_some_iff.1 hk'
      exact Option.bind_eq_some_iff.2 ⟨c2, f1, hs _ _ _ _ f2⟩

theorem run_mono (hC : Below' C C') {n n' kk : Nat} (hn : n ≤ n') {live : Nat → Option (List Nat)} : ∀ (c : Code) (ts : List PV) (h : Heap) (k k' : Ex → List PV → Heap → Option R) (r : R), KLeE k k' → run P C M n kk live c ts h k = some r →
    run P C' M n' kk live c ts h k' = some r := by
  intro c
  induction c with
  | skip => intro ts h k F r hs hk; exact hs _ _ _ _ hk
  | label l => intro ts h k F r hs hk; exact hs _ _ _ _ hk
  | region id ops d =>
    intro ts h k F r hs hk
    simp only [run] at hk ⊢
    split at hk
    · rename_i hd
      rw [if_pos hd]
      split at hk
      · rename_i hst
        rw [if_pos hst]
        exact runDraw_mono hC (fun ts h r hk => hs _ _ _ _ hk) _ _ _ _ _ _ hk
      · cases hk
    · rename_i hd
      rw [if_neg hd]
      exact runOps_mono hC (fun ts h r hk => hs _ _ _ _ hk) _ _ _ _ hk
  | seq x y ihx ihy =>
    intro ts h k F r hs hk
    simp only [run] at hk ⊢
    refine ihx _ _ _ _ _ ?_ hk
    intro e ts' h' r' hk'
    cases e with
    | normal => exact ihy _ _ _ _ _ hs hk'
    | exit i => exact hs _ _ _ _ hk'
    | ret => exact hs _ _ _ _ hk'
  | cond c x y ihx ihy =>
    intro ts h k F r hs hk
    simp only [run] at hk ⊢
    split at hk
    · split at hk
      · rename_i hc; rw [if_pos hc]; exact ihx _ _ _ _ _ hs hk
      · rename_i hc; rw [if_neg hc]; exact ihy _ _ _ _ _ hs hk
    · cases hk
  | block id x ih =>
    intro ts h k F r hs hk
    simp only [run] at hk ⊢
    refine ih _ _ _ _ _ ?_ hk
    intro e ts' h' r' hk'
    cases e with
    | normal => exact hs _ _ _ _ hk'
    | exit i =>
      dsimp only at hk' ⊢
      split at hk'
      · rename_i hi; rw [if_pos hi]; exact hs _ _ _ _ hk'
      · rename_i hi; rw [if_neg hi]; exact hs _ _ _ _ hk'
    | ret => exact hs _ _ _ _ hk'
  | loop x ih =>
    intro ts h k F r hs hk
    simp only [run] at hk ⊢
    exact loopN_mono (fun ts h k F r hs hk => ih ts h k F r hs hk) hs n n' ts h r hn hk
  | scope x ih => intro ts h k F r hs hk; exact ih _ _ _ _ _ hs hk
  | exit i => intro ts h k F r hs hk; exact hs _ _ _ _ hk
  | ret => intro ts h k F r hs hk; exact hs _ _ _ _ hk
  | goto l => intro ts h k F r hs hk; simp [run] at hk
  | _ => intros; rename_i hk; simp [run] at hk

theorem call_mono {X : Ext} {L : FuncId → Nat → Option (List Nat)} : ∀ (n n' : Nat), n ≤ n' → Below' (call P X M L n) (call P X M L n')
  | 0, _, _ => fun f xs hc y h => by cases h
  | n + 1, 0, hn => by omega
  | n + 1, n' + 1, hn => fun f xs hc y h => by
    have ih := call_mono (X := X) (L := L) n n' (by omega)
    simp only [call] at h ⊢
    split at h
    · exact h
    · split at h
      · cases h
      · split at h
        · cases h
        · rename_i body hb
          exact run_mono ih (by omega) body _ _ _ _ _ (fun e ts h r hk => hk) h

end
end Go.Pu
end

section
/- The pure machine, thirty-second part: the same machine, told so that every test stands outermost: for equations that hold by computation. -/
set_option linter.unusedSimpArgs false
set_option linter.unusedVariables false
namespace Go.Pu

def br {R : Type} (b : Bool) (x y : Option R) : Option R := if b = true then x else y

section
variable {R : Type} (B : Bool → Option R → Option R → Option R) (P : Program)

def contentK (h : Heap) (x : PV) (k : Option TypeId × List (List PV) → Option R) : Option R :=
  match x with
  | .own b off n => match h[b]? with
    | some (.arr t es _) => B (decide (off + n ≤ es.length)) (k (some t, (es.drop off).take n)) none
    | _ => none
  | x => (content h x).bind k

def binOpK (op : BinOp) (t : TypeId) (x y : PV) (k : PV → Option R) : Option R :=
  match x, y with
  | .int kx a, .int ky b =>
    match op with
    | .shl => B (decide (b < 0)) none (k (.int kx (kx.wrap (a * 2 ^ (min b.toNat kx.bits)))))
    | .shr => B (decide (b < 0)) none (k (.int kx (a.fdiv (2 ^ (min b.toNat kx.bits)))))
    | .quo => if kx = ky then B (decide (b = 0)) none (k (.int kx (kx.wrap (a.tdiv b)))) else none
    | .rem => if kx = ky then B (decide (b = 0)) none (k (.int kx (a.tmod b))) else none
    | op => (binOp P op t (.int kx a) (.int ky b)).bind k
  | .str a, .str b =>
    match op with
    | .add => B (decide (a.size + b.size ≤ 9223372036854775807)) (k (.str (a ++ b))) none
    | op => (strOp op a b).bind k
  | x, y => (binOp P op t x y).bind k

def indexOpK (t : TypeId) (x i : PV) (k : PV → Option R) : Option R :=
  match P.underlying t, x, i with
  | some .string, .str s, .int _ n => B (decide (0 ≤ n ∧ n < s.size)) (k (.int .u8 (s.data.toList.getD n.toNat 0).toNat)) none
  | _, _, _ => (indexOp P t x i).bind k

def indexAddrOpK (t : TypeId) (h : Heap) (x i : PV) (k : PV → Option R) : Option R :=
  match P.underlying t, i with
  | some (.slice e), .int _ n =>
    if elSize P e = none then none else
    match x with
    | .lst T es => if T = e then B (decide (0 ≤ n ∧ n < es.length)) (k (.eptr T (es.getD n.toNat []) 0)) none else none
    | .all b => match h[b]? with
      | some (.arr T es _) => if T = e then B (decide (0 ≤ n ∧ n < es.length)) (k (.aptr b n.toNat 0)) none else none
      | _ => none
    | .own b off m => match h[b]? with
      | some (.arr T es _) => if T = e then B (decide (0 ≤ n ∧ n < m ∧ off + n.toNat < es.length)) (k (.aptr b (off + n.toNat) 0)) none else none
      | _ => none
    | _ => none
  | some (.array len e), .int _ n =>
    match x with
    | .ptr b off => (P.info? e).bind fun g => if aliveP h (.ptr b off) = true then B (decide (0 ≤ n ∧ n < len)) (k (.ptr b (off + n.toNat * g.size))) none else none
    | _ => none
  | _, _ => none

def sliceRowK (e : TypeId) (h : Heap) (lo hi : Option PV) (x : PV) (k : PV → Option R) : Option R :=
  if elSize P e = none then none else
  match x with
  | .lst T es =>
    (bound lo 0).bind fun l => (bound hi es.length).bind fun u =>
      if T = e then B (decide (0 ≤ l ∧ l ≤ u ∧ u ≤ es.length)) (k (.lst T ((es.drop l.toNat).take (u.toNat - l.toNat)))) none else none
  | .all b =>
    match h[b]? with
    | some (.arr T es _) =>
      (bound lo 0).bind fun l => (bound hi es.length).bind fun u =>
        if T = e then B (decide (0 ≤ l ∧ l ≤ u ∧ u ≤ es.length)) (k (.own b l.toNat (u.toNat - l.toNat))) none else none
    | _ => none
  | .own b off n =>
    match h[b]? with
    | some (.arr T _ _) =>
      (bound lo 0).bind fun l => (bound hi n).bind fun u =>
        if T = e then B (decide (0 ≤ l ∧ l ≤ u ∧ u ≤ n)) (k (.own b (off + l.toNat) (u.toNat - l.toNat))) none else none
    | _ => none
  | x => (sliceRow P e h lo hi x).bind k

def sliceStrK (s : ByteArray) (lo hi : Option PV) (k : PV → Option R) : Option R :=
  (bound lo 0).bind fun l => (bound hi s.size).bind fun u =>
    B (decide (0 ≤ l ∧ l ≤ u ∧ u ≤ s.size)) (k (.str (s.extract l.toNat u.toNat))) none

def sliceOpK (t : TypeId) (h : Heap) (x : PV) (lo hi mx : Option PV) (k : PV → Option R) : Option R :=
  if mx.isSome then none else
  match P.underlying t with
  | some .string => match x with | .str s => sliceStrK B s lo hi k | _ => none
  | some (.slice e) => sliceRowK B P e h lo hi x k
  | _ => none

def loadOpK (t : TypeId) (h : Heap) (a : PV) (k : PV → Option R) : Option R :=
  match a with
  | .aptr b i off => match h[b]? with | some (.arr T es _) => B (decide (i < es.length)) ((loadEl P t T (es.getD i []) off).bind k) none | _ => none
  | a => (loadOp P t h a).bind k

def purCellK (h : Heap) (kd : Kd) (x : PV) (k : PV × Heap → Option R) : Option R :=
  match kd, x with
  | .sl t, .own b off n => match h[b]? with
    | some (.arr t' es _) => if t = t' then B (decide (off + n ≤ es.length)) (k (.lst t ((es.drop off).take n), freeze h b)) none else none
    | _ => none
  | kd, x => (purCell h kd x).bind k

def purCellsK (h : Heap) : List Kd → List PV → (List PV × Heap → Option R) → Option R
  | [], [], k => k ([], h)
  | kd :: ks, c :: cs, k => purCellK B h kd c fun r => purCellsK r.2 ks cs fun s => k (r.1 :: s.1, s.2)
  | _, _, _ => none

def storeOpK (t : TypeId) (h : Heap) (a x : PV) (k : Heap → Option R) : Option R :=
  match P.info? t with
  | none => none
  | some i =>
    if x.cells.length ≠ i.size ∨ x.cells.all cell1 = false ∨ okv h x = false ∨ x.cells.all (okv h) = false then none else
    match a with
    | .aptr b j off => match h[b]? with
      | some (.arr T es true) =>
        if off + i.size ≤ (kds P T).length then
          B (decide (j < es.length))
          (purCellsK B h (((kds P T).drop off).take i.size) x.cells fun r =>
            match r.2[b]? with
            | some (.arr _ es2 true) => k (r.2.set b (.arr T (es2.set j (setCells (es2.getD j []) off r.1)) true))
            | _ => none) none
        else none
      | _ => none
    | a => (storeOp P t h a x).bind k

def litElsK (e : TypeId) (h : Heap) : Nat → List (Nat × PV) → (List (List PV) × Heap → Option R) → Option R
  | _, [], k => k ([], h)
  | j, (i, v) :: rest, k =>
    if i = j ∧ okv h v = true then
      purCellsK B h (kds P e) v.cells fun r => litElsK e r.2 (j + 1) rest fun s => k (r.1 :: s.1, s.2)
    else none

def buildSliceOpK (t : TypeId) (len : Nat) (parts : List (Nat × PV)) (al : Option Nat) (h : Heap) (k : PV × Heap → Option R) : Option R :=
  match P.underlying t with
  | some (.slice e) =>
    (elSize P e).bind fun sz =>
      if parts.length = len ∧ len * sz ≤ 16777216 then
        litElsK B P e h 0 parts fun r => let z := allocAt al r.2 (.arr e r.1 true); k (.all z.1, z.2)
      else none
  | _ => none

def makeSliceOpK (t : TypeId) (len cap : PV) (al : Option Nat) (h : Heap) (k : PV × Heap → Option R) : Option R :=
  match P.underlying t, len, cap with
  | some (.slice e), .int .i64 n, .int .i64 c =>
    (elSize P e).bind fun _ => (P.info? e).bind fun i => (zeroEl P e).bind fun z =>
      B (decide (0 ≤ n ∧ n ≤ c ∧ i.bytes * c ≤ 140737488355328 ∧ c ≤ 140737488355328))
        (B (decide (n = c)) (let r := allocAt al h (.arr e (List.replicate n.toNat z) true); k (.all r.1, r.2))
         (let r := allocAt al h (.arr e (List.replicate n.toNat z) true); k (.own r.1 0 n.toNat, r.2)))
      none
  | _, _, _ => none

def tailK (h : Heap) (e : TypeId) (x : PV) (k : List (List PV) → Option R) : Option R :=
  match x with
  | .str s => if kdOf P e = .int .u8 then k (bytesOf s) else none
  | x => contentK B h x fun c => if c.1 = none ∨ c.1 = some e then k c.2 else none

def appendOpK (tys : Array TypeId) (h : Heap) (s x : PV) (al : Option Nat) (k : PV × Heap → Option R) : Option R :=
  match tys[0]?, tys[1]? with
  | some sT, some xT =>
    match P.underlying xT with
    | some (.slice _) | some .string =>
      (elemOf P sT).bind fun e => (elSize P e).bind fun _ => (P.info? e).bind fun i => contentK B h s fun c => tailK B P h e x fun ys =>
        if (c.1 = none ∨ c.1 = some e) ∧ 0 < i.bytes then
          B (decide ((c.2.length + ys.length) * i.bytes ≤ 140737488355328))
            ((drop1 h s).bind fun h' => let r := allocAt al h' (.arr e (c.2 ++ ys) true); k (.all r.1, r.2))
          none
        else none
    | _ => none
  | _, _ => none

def lenOpK (t : TypeId) (h : Heap) (x : PV) (k : PV → Option R) : Option R :=
  match P.underlying t, x with
  | some (.slice _), .own b off n => match h[b]? with | some (.arr _ es _) => B (decide (off + n ≤ es.length)) (k (.int .i64 n)) none | _ => none
  | _, x => (lenOp P t h x).bind k

def view1K (h : Heap) (x : PV) (k : PV → Option R) : Option R :=
  match x with
  | .own _ _ _ => contentK B h x fun c => (c.1.map fun t => PV.lst t c.2).bind k
  | x => (view1 h x).bind k

def mapK {α β : Type} (f : α → (β → Option R) → Option R) : List α → (List β → Option R) → Option R
  | [], k => k []
  | x :: xs, k => f x fun y => mapK f xs fun ys => k (y :: ys)

def viewK (h : Heap) (x : PV) (k : PV → Option R) : Option R :=
  match x with
  | .agg cs => mapK (view1K B h) cs fun ys => k (.agg ys)
  | x => view1K B h x k

abbrev CallK (R : Type) := FuncId → List PV → List Blk → (PV × List Blk → Option R) → Option R

def callCoreK (CK : CallK R) (M : FuncId → Bool) (al : Option Nat) (h : Heap) (f : FuncId) (xs : List PV) (k : (PV × Heap) × Foot → Option R) : Option R :=
  (fun (kk : List PV → Option R) => if M f then kk xs else mapK (viewK B h) xs kk) fun ys =>
    (reach h (ys.flatMap refs)).bind fun ids =>
      if ys.all sh && (M f || (xs.flatMap refs).all fun b => match h[b]? with | some (.arr _ _ _) => !ids.contains b | _ => true) then
        CK f (ys.map (ren ids.idxOf)) (heapOf h ids) fun r =>
          let vids := (xs.flatMap refs).filter fun b => !ids.contains b
          let h1 := if ids.isEmpty && flatR P r.2 r.1 then h else vids.foldl freeze h
          let g := fwd ids (baseOf al h)
          let bs := r.2.map (renBlk g)
          if resFree h al (bs.drop ids.length).length && r.2.all okBlk && shR r.1 then
            k ((renR g r.1, addMany al (setMany h1 ids (bs.take ids.length)) (bs.drop ids.length)),
              (xs.flatMap refs ++ ids ++ slotIds al (bs.drop ids.length).length, (if ids.isEmpty && flatR P r.2 r.1 then [] else ids ++ vids) ++ slotIds al (bs.drop ids.length).length))
          else none
      else none

def doOpK (CK : CallK R) (M : FuncId → Bool) (al : Option Nat) (ts : List PV) (h : Heap) (op : Op) (k : (PV × Heap) × Foot → Option R) : Option R :=
  let kf : PV × Heap → Option R := fun r => k (r, footOp al ts op)
  let kv : PV → Option R := fun v => k ((v, h), footOp al ts op)
  match op with
  | .buildSlice t len ps => buildSliceOpK B P t len (evp ts ps) al h kf
  | .load t a => loadOpK B P t h (ev ts a) kv
  | .store t a x => storeOpK B P t h (ev ts a) (ev ts x) fun h' => kf (.top, h')
  | .binOp o t x y _ => binOpK B P o t (ev ts x) (ev ts y) kv
  | .makeSlice t l c => makeSliceOpK B P t (ev ts l) (ev ts c) al h kf
  | .slice t x lo hi mx => sliceOpK B P t h (ev ts x) (evo ts lo) (evo ts hi) (evo ts mx) kv
  | .indexAddr t x i => indexAddrOpK B P t h (ev ts x) (ev ts i) kv
  | .index t x i => indexOpK B P t (ev ts x) (ev ts i) kv
  | .call c => match c.callee with
    | .builtin .len => match evs ts c.args with
      | [x] => match c.argTypes[0]? with | some t => lenOpK B P t h x kv | none => none
      | _ => none
    | .builtin .append => match evs ts c.args with
      | [s, x] => appendOpK B P c.argTypes h s x al kf
      | _ => none
    | .builtin b => (builtinOp P b c.argTypes al h (evs ts c.args)).bind kf
    | .value f => match ev ts f with
      | .fn g caps => callCoreK B P CK M al h g (evs ts c.args ++ caps) k
      | _ => none
    | _ => none
  | op => (doOp P (fun _ _ _ => none) M al ts h op).bind kf

end
end Go.Pu
end

section
/- The pure machine, thirty-third part: what the second form tells the first one tells. -/
set_option linter.unusedSimpArgs false
set_option linter.unusedVariables false
namespace Go.Pu

section
variable {R : Type} {P : Program} {r : R}

theorem bindK {α : Type} {o : Option α} {k : α → Option R} (h : o.bind k = some r) : ∃ a, o = some a ∧ k a = some r := Option.bind_eq_some_iff.1 h

theorem br_dec {p : Prop} [Decidable p] {x : Option R} (h : br (decide p) x none = some r) : p ∧ x = some r := by
  unfold br at h
  split at h
  · rename_i hp; exact ⟨by simpa using hp, h⟩
  · cases h

theorem br_dec' {p : Prop} [Decidable p] {x : Option R} (h : br (decide p) none x = some r) : ¬ p ∧ x = some r := by
  unfold br at h
  split at h
  · cases h
  · rename_i hp; exact ⟨by simpa using hp, h⟩

theorem contentK_spec {h : Heap} {x : PV} {k : Option TypeId × List (List PV) → Option R} (hk : contentK br h x k = some r) : ∃ c, content h x = some c ∧ k c = some r := by
  unfold contentK at hk
  split at hk
  · split at hk
    · rename_i hb
      obtain ⟨hl, hk⟩ := br_dec hk
      exact ⟨_, by simp only [content, hb, if_pos hl], hk⟩
    · cases hk
  · exact bindK hk

theorem binOpK_spec {op : BinOp} {t : TypeId} {x y : PV} {k : PV → Option R} (hk : binOpK br P op t x y k = some r) : ∃ v, binOp P op t x y = some v ∧ k v = some r := by
  unfold binOpK at hk
  split at hk
  · split at hk
    · obtain ⟨hb, hk⟩ := br_dec' hk
      exact ⟨_, by simp only [binOp, shiftOp, if_neg hb], hk⟩
    · obtain ⟨hb, hk⟩ := br_dec' hk
      exact ⟨_, by simp only [binOp, shiftOp, if_neg hb], hk⟩
    · split at hk
      · rename_i he
        obtain ⟨hb, hk⟩ := br_dec' hk
        exact ⟨_, by simp only [binOp, intOp, if_pos he, if_neg hb], hk⟩
      · cases hk
    · split at hk
      · rename_i he
        obtain ⟨hb, hk⟩ := br_dec' hk
        exact ⟨_, by simp only [binOp, intOp, if_pos he, if_neg hb], hk⟩
      · cases hk
    · exact bindK hk
  · split at hk
    · obtain ⟨hs, hk⟩ := br_dec hk
      exact ⟨_, by simp only [binOp, strOp, if_pos hs], hk⟩
    · obtain ⟨v, e1, e2⟩ := bindK hk
      exact ⟨v, by simpa only [binOp] using e1, e2⟩
  · exact bindK hk

theorem indexOpK_spec {t : TypeId} {x i : PV} {k : PV → Option R} (hk : indexOpK br P t x i k = some r) : ∃ v, indexOp P t x i = some v ∧ k v = some r := by
  unfold indexOpK at hk
  split at hk
  · rename_i hu
    obtain ⟨hc, hk⟩ := br_dec hk
    exact ⟨_, by simp only [indexOp, hu, if_pos hc], hk⟩
  · exact bindK hk

theorem indexAddrOpK_spec {t : TypeId} {h : Heap} {x i : PV} {k : PV → Option R} (hk : indexAddrOpK br P t h x i k = some r) : ∃ v, indexAddrOp P t h x i = some v ∧ k v = some r := by
  unfold indexAddrOpK at hk
  unfold indexAddrOp
  split at hk
  · rename_i hu
    simp only [hu]
    split at hk
    · cases hk
    · rename_i he
      rw [if_neg he]
      split at hk
      · split at hk
        · rename_i hT
          obtain ⟨hc, hk⟩ := br_dec hk
          exact ⟨_, by simp only [hT, hc, and_self, if_true], hk⟩
        · cases hk
      · split at hk
        · rename_i hb
          split at hk
          · rename_i hT
            obtain ⟨hc, hk⟩ := br_dec hk
            exact ⟨_, by simp only [hb, hT, hc, and_self, if_true], hk⟩
          · cases hk
        · cases hk
      · split at hk
        · rename_i hb
          split at hk
          · rename_i hT
            obtain ⟨hc, hk⟩ := br_dec hk
            exact ⟨_, by simp only [hb, hT, hc, and_self, if_true], hk⟩
          · cases hk
        · cases hk
      · cases hk
  · rename_i hu
    simp only [hu]
    split at hk
    · obtain ⟨g, e1, e2⟩ := bindK hk
      split at e2
      · rename_i ha
        obtain ⟨hc, e2⟩ := br_dec e2
        exact ⟨_, by simp only [e1, Option.bind_some, hc, ha, and_self, if_true], e2⟩
      · cases e2
    · cases hk
  · cases hk

theorem sliceRowK_spec {e : TypeId} {h : Heap} {lo hi : Option PV} {x : PV} {k : PV → Option R} (hk : sliceRowK br P e h lo hi x k = some r) : ∃ v, sliceRow P e h lo hi x = some v ∧ k v = some r := by
  unfold sliceRowK at hk
  split at hk
  · cases hk
  · rename_i he
    split at hk
    · obtain ⟨l, e1, e2⟩ := bindK hk
      obtain ⟨u, e3, e4⟩ := bindK e2
      split at e4
      · rename_i hT
        obtain ⟨hc, e4⟩ := br_dec e4
        exact ⟨_, by simp only [sliceRow, if_neg he, e1, e3, Option.bind_some, hT, hc, and_self, if_true], e4⟩
      · cases e4
    · split at hk
      · rename_i hb
        obtain ⟨l, e1, e2⟩ := bindK hk
        obtain ⟨u, e3, e4⟩ := bindK e2
        split at e4
        · rename_i hT
          obtain ⟨hc, e4⟩ := br_dec e4
          exact ⟨_, by simp only [sliceRow, if_neg he, hb, e1, e3, Option.bind_some, hT, hc, and_self, if_true], e4⟩
        · cases e4
      · cases hk
    · split at hk
      · rename_i hb
        obtain ⟨l, e1, e2⟩ := bindK hk
        obtain ⟨u, e3, e4⟩ := bindK e2
        split at e4
        · rename_i hT
          obtain ⟨hc, e4⟩ := br_dec e4
          exact ⟨_, by simp only [sliceRow, if_neg he, hb, e1, e3, Option.bind_some, hT, hc, and_self, if_true], e4⟩
        · cases e4
      · cases hk
    · exact bindK hk

theorem sliceOpK_spec {t : TypeId} {h : Heap} {x : PV} {lo hi mx : Option PV} {k : PV → Option R} (hk : sliceOpK br P t h x lo hi mx k = some r) : ∃ v, sliceOp P t h x lo hi mx = some v ∧ k v = some r := by
  unfold sliceOpK at hk
  unfold sliceOp
  split at hk
  · cases hk
  · rename_i hm
    rw [if_neg hm]
    split at hk
    · rename_i hu
      simp only [hu]
      split at hk
      · unfold sliceStrK at hk
        obtain ⟨l, e1, e2⟩ := bindK hk
        obtain ⟨u, e3, e4⟩ := bindK e2
        obtain ⟨hc, e4⟩ := br_dec e4
        exact ⟨_, by simp only [sliceStr, e1, e3, Option.bind_some, if_pos hc], e4⟩
      · cases hk
    · rename_i hu
      simp only [hu]
      exact sliceRowK_spec hk
    · cases hk

theorem loadOpK_spec {t : TypeId} {h : Heap} {a : PV} {k : PV → Option R} (hk : loadOpK br P t h a k = some r) : ∃ v, loadOp P t h a = some v ∧ k v = some r := by
  unfold loadOpK at hk
  split at hk
  · split at hk
    · rename_i hb
      obtain ⟨hi, hk⟩ := br_dec hk
      obtain ⟨v, e1, e2⟩ := bindK hk
      exact ⟨v, by simp only [loadOp, hb, if_pos hi, e1], e2⟩
    · cases hk
  · exact bindK hk

theorem purCellK_spec {h : Heap} {kd : Kd} {x : PV} {k : PV × Heap → Option R} (hk : purCellK br h kd x k = some r) : ∃ v, purCell h kd x = some v ∧ k v = some r := by
  unfold purCellK at hk
  split at hk
  · split at hk
    · rename_i hb
      split at hk
      · rename_i ht
        obtain ⟨hl, hk⟩ := br_dec hk
        exact ⟨_, by simp only [purCell, hb, ht, hl, and_self, if_true], hk⟩
      · cases hk
    · cases hk
  · exact bindK hk

theorem purCellsK_spec : ∀ {ks : List Kd} {cs : List PV} {h : Heap} {k : List PV × Heap → Option R}, purCellsK br h ks cs k = some r → ∃ v, purCells h ks cs = some v ∧ k v = some r
  | [], [], h, k, hk => ⟨_, rfl, hk⟩
  | kd :: ks, c :: cs, h, k, hk => by
    simp only [purCellsK] at hk
    obtain ⟨v, e1, e2⟩ := purCellK_spec hk
    obtain ⟨s, e3, e4⟩ := purCellsK_spec e2
    exact ⟨_, by simp only [purCells, e1, e3, Option.bind_some], e4⟩
  | [], _ :: _, _, _, hk => by cases hk
  | _ :: _, [], _, _, hk => by cases hk

theorem storeOpK_spec {t : TypeId} {h : Heap} {a x : PV} {k : Heap → Option R} (hk : storeOpK br P t h a x k = some r) : ∃ v, storeOp P t h a x = some v ∧ k v = some r := by
  unfold storeOpK at hk
  split at hk
  · cases hk
  · rename_i i hi
    split at hk
    · cases hk
    · rename_i hc
      split at hk
      · split at hk
        · rename_i hb
          split at hk
          · rename_i ho
            obtain ⟨hj, hk⟩ := br_dec hk
            obtain ⟨q, e1, e2⟩ := purCellsK_spec hk
            split at e2
            · rename_i hb2
              exact ⟨_, by simp only [storeOp, hi, if_neg hc, hb, hj, ho, and_self, if_true, e1, Option.bind_some, hb2], e2⟩
            · cases e2
          · cases hk
        · cases hk
      · exact bindK hk

theorem litElsK_spec {e : TypeId} : ∀ {parts : List (Nat × PV)} {h : Heap} {j : Nat} {k : List (List PV) × Heap → Option R}, litElsK br P e h j parts k = some r → ∃ v, litEls P e h j parts = some v ∧ k v = some r
  | [], h, j, k, hk => ⟨_, rfl, hk⟩
  | (i, v) :: rest, h, j, k, hk => by
    simp only [litElsK] at hk
    split at hk
    · rename_i hc
      obtain ⟨q, e1, e2⟩ := purCellsK_spec hk
      obtain ⟨s, e3, e4⟩ := litElsK_spec e2
      exact ⟨_, by simp only [litEls, if_pos hc, e1, e3, Option.bind_some], e4⟩
    · cases hk

theorem buildSliceOpK_spec {t : TypeId} {len : Nat} {parts : List (Nat × PV)} {al : Option Nat} {h : Heap} {k : PV × Heap → Option R} (hk : buildSliceOpK br P t len parts al h k = some r) : ∃ v, buildSliceOp P t len parts al h = some v ∧ k v = some r := by
  unfold buildSliceOpK at hk
  split at hk
  · rename_i hu
    obtain ⟨sz, e1, e2⟩ := bindK hk
    split at e2
    · rename_i hc
      obtain ⟨q, e3, e4⟩ := litElsK_spec e2
      exact ⟨_, by simp only [buildSliceOp, hu, e1, Option.bind_some, if_pos hc, e3], e4⟩
    · cases e2
  · cases hk

theorem makeSliceOpK_spec {t : TypeId} {len cap : PV} {al : Option Nat} {h : Heap} {k : PV × Heap → Option R} (hk : makeSliceOpK br P t len cap al h k = some r) : ∃ v, makeSliceOp P t len cap al h = some v ∧ k v = some r := by
  unfold makeSliceOpK at hk
  split at hk
  · rename_i hu
    obtain ⟨sz, e1, e2⟩ := bindK hk
    obtain ⟨i, e3, e4⟩ := bindK e2
    obtain ⟨z, e5, e6⟩ := bindK e4
    obtain ⟨hc, e6⟩ := br_dec e6
    unfold br at e6
    split at e6
    · rename_i hn; exact ⟨_, by simp only [makeSliceOp, hu, e1, e3, e5, Option.bind_some, if_pos hc, if_pos (of_decide_eq_true hn)], e6⟩
    · rename_i hn; exact ⟨_, by simp only [makeSliceOp, hu, e1, e3, e5, Option.bind_some, if_pos hc, if_neg (by simpa using hn)], e6⟩
  · cases hk

theorem tailK_spec {h : Heap} {e : TypeId} {x : PV} {k : List (List PV) → Option R} (hk : tailK br P h e x k = some r) : ∃ v, tail P h e x = some v ∧ k v = some r := by
  unfold tailK at hk
  split at hk
  · split at hk
    · rename_i hc; exact ⟨_, by simp only [tail, if_pos hc], hk⟩
    · cases hk
  · rename_i hne
    obtain ⟨c, e1, e2⟩ := contentK_spec hk
    split at e2
    · rename_i hc
      refine ⟨_, ?_, e2⟩
      unfold tail
      split
      · exact absurd rfl (hne _)
      · simp only [e1, Option.bind_some, if_pos hc]
    · cases e2

theorem appendOpK_spec {tys : Array TypeId} {h : Heap} {s x : PV} {al : Option Nat} {k : PV × Heap → Option R} (hk : appendOpK br P tys h s x al k = some r) : ∃ v, appendOp P tys h s x al = some v ∧ k v = some r := by
  unfold appendOpK at hk
  split at hk
  · rename_i h0 h1
    split at hk
    all_goals first | (cases hk; done) | skip
    all_goals
      rename_i hu
      obtain ⟨e, e1, hk⟩ := bindK hk
      obtain ⟨sz, e2, hk⟩ := bindK hk
      obtain ⟨i, e3, hk⟩ := bindK hk
      obtain ⟨c, e4, hk⟩ := contentK_spec hk
      obtain ⟨ys, e5, hk⟩ := tailK_spec hk
      split at hk
      · rename_i hc
        obtain ⟨hl, hk⟩ := br_dec hk
        obtain ⟨h', e6, hk⟩ := bindK hk
        exact ⟨_, by simp only [appendOp, h0, h1, hu, e1, e2, e3, e4, e5, Option.bind_some, hc, hl, and_self, if_true, e6], hk⟩
      · cases hk
  · cases hk

theorem lenOpK_spec {t : TypeId} {h : Heap} {x : PV} {k : PV → Option R} (hk : lenOpK br P t h x k = some r) : ∃ v, lenOp P t h x = some v ∧ k v = some r := by
  unfold lenOpK at hk
  split at hk
  · rename_i hu
    split at hk
    · rename_i hb
      obtain ⟨hl, hk⟩ := br_dec hk
      exact ⟨_, by simp only [lenOp, hu, hb, if_pos hl], hk⟩
    · cases hk
  · exact bindK hk

theorem view1K_spec {h : Heap} {x : PV} {k : PV → Option R} (hk : view1K br h x k = some r) : ∃ v, view1 h x = some v ∧ k v = some r := by
  unfold view1K at hk
  split at hk
  · obtain ⟨c, e1, e2⟩ := contentK_spec hk
    obtain ⟨v, e3, e4⟩ := bindK e2
    exact ⟨v, by simp only [view1, e1, Option.bind_some, e3], e4⟩
  · exact bindK hk

theorem mapK_spec {α β : Type} {f : α → (β → Option R) → Option R} {g : α → Option β} (hf : ∀ x k r, f x k = some r → ∃ v, g x = some v ∧ k v = some r) : ∀ {xs : List α} {k : List β → Option R} {r : R}, mapK f xs k = some r → ∃ v, mapO g xs = some v ∧ k v = some r
  | [], k, r, hk => ⟨_, rfl, hk⟩
  | x :: xs, k, r, hk => by
    simp only [mapK] at hk
    obtain ⟨v, e1, e2⟩ := hf _ _ _ hk
    obtain ⟨vs, e3, e4⟩ := mapK_spec hf e2
    exact ⟨_, by simp only [mapO, e1, e3, Option.bind_some], e4⟩

theorem viewK_spec {h : Heap} {x : PV} {k : PV → Option R} (hk : viewK br h x k = some r) : ∃ v, view h x = some v ∧ k v = some r := by
  unfold viewK at hk
  split at hk
  · obtain ⟨v, e1, e2⟩ := mapK_spec (g := view1 h) (fun x k r hk => view1K_spec hk) hk
    exact ⟨_, by simp only [view, e1, Option.map_some], e2⟩
  · rename_i hne
    obtain ⟨v, e1, e2⟩ := view1K_spec hk
    refine ⟨v, ?_, e2⟩
    unfold view
    split
    · exact absurd rfl (hne _)
    · exact e1

/-- what CK tells, one of some tables tells -/
def CallKIn (S : CallF → Prop) (CK : CallK R) : Prop := ∀ f xs hc k r, CK f xs hc k = some r → ∃ C y, S C ∧ C f xs hc = some y ∧ k y = some r

theorem callCoreK_spec {CK : CallK R} {S : CallF → Prop} (hC : CallKIn S CK) {M : FuncId → Bool} {al : Option Nat} {h : Heap} {f : FuncId} {xs : List PV} {k : (PV × Heap) × Foot → Option R} (hk : callCoreK br P CK M al h f xs k = some r) :
    ∃ C v, S C ∧ callCore P C M al h f xs = some v ∧ k v = some r := by
  unfold callCoreK at hk
  have h1 : ∃ ys, (if M f then some xs else mapO (view h) xs) = some ys ∧ ((reach h (ys.flatMap refs)).bind fun ids =>
      if ys.all sh && (M f || (xs.flatMap refs).all fun b => match h[b]? with | some (.arr _ _ _) => !ids.contains b | _ => true) then
        CK f (ys.map (ren ids.idxOf)) (heapOf h ids) fun r =>
          let vids := (xs.flatMap refs).filter fun b => !ids.contains b
          let h1 := if ids.isEmpty && flatR P r.2 r.1 then h else vids.foldl freeze h
          let g := fwd ids (baseOf al h)
          let bs := r.2.map (renBlk g)
          if resFree h al (bs.drop ids.length).length && r.2.all okBlk && shR r.1 then
            k ((renR g r.1, addMany al (setMany h1 ids (bs.take ids.length)) (bs.drop ids.length)),
              (xs.flatMap refs ++ ids ++ slotIds al (bs.drop ids.length).length, (if ids.isEmpty && flatR P r.2 r.1 then [] else ids ++ vids) ++ slotIds al (bs.drop ids.length).length))
          else none
      else none) = some r := by
    dsimp only at hk
    split at hk
    · rename_i hM
      exact ⟨xs, by rw [if_pos hM], hk⟩
    · rename_i hM
      obtain ⟨ys, e1, e2⟩ := mapK_spec (g := view h) (fun x k r hk => viewK_spec hk) hk
      exact ⟨ys, by rw [if_neg hM]; exact e1, e2⟩
  obtain ⟨ys, e1, e2⟩ := h1
  obtain ⟨ids, e3, e4⟩ := bindK e2
  split at e4
  · rename_i hsh
    obtain ⟨C, y, eS, e5, e6⟩ := hC _ _ _ _ _ e4
    dsimp only at e6
    split at e6
    · rename_i hok
      refine ⟨C, _, eS, ?_, e6⟩
      unfold callCore
      simp only [e1, e3, Option.bind_some]
      refine (if_pos hsh).trans ?_
      rw [e5]
      simp only [Option.bind_some]
      exact if_pos hok
    · cases e6
  · cases e4

theorem doOpK_spec {CK : CallK R} {S : CallF → Prop} (hC : CallKIn S CK) (hS : ∃ C, S C) {M : FuncId → Bool} {al : Option Nat} {ts : List PV} {h : Heap} {op : Op} {k : (PV × Heap) × Foot → Option R} (hk : doOpK br P CK M al ts h op k = some r) :
    ∃ C v, S C ∧ doOpF P C M al ts h op = some v ∧ k v = some r := by
  obtain ⟨C, hCS⟩ := hS
  have kv : ∀ {g : Option PV}, (∃ v, g = some v ∧ k ((v, h), footOp al ts op) = some r) → ∃ C v, S C ∧ (keep h g).map (fun r => (r, footOp al ts op)) = some v ∧ k v = some r := by
    rintro g ⟨v, rfl, e⟩
    exact ⟨C, _, hCS, rfl, e⟩
  have kf : ∀ {g : Option (PV × Heap)}, (∃ v, g = some v ∧ k (v, footOp al ts op) = some r) → ∃ C v, S C ∧ g.map (fun r => (r, footOp al ts op)) = some v ∧ k v = some r := by
    rintro g ⟨v, rfl, e⟩
    exact ⟨C, _, hCS, rfl, e⟩
  have other : (doOp P (fun _ _ _ => none) M al ts h op).bind (fun v => k (v, footOp al ts op)) = some r → doOp P C M al ts h op = doOp P (fun _ _ _ => none) M al ts h op →
      ∃ C v, S C ∧ (doOp P C M al ts h op).map (fun r => (r, footOp al ts op)) = some v ∧ k v = some r := by
    intro hk e
    obtain ⟨v, e1, e2⟩ := bindK hk
    exact ⟨C, _, hCS, by rw [e, e1]; rfl, e2⟩
  cases op <;> simp only [doOpK] at hk <;> simp only [doOpF]
  case buildSlice t len ps => simp only [doOp]; exact kf (buildSliceOpK_spec hk)
  case load t a => simp only [doOp]; exact kv (loadOpK_spec hk)
  case store t a x =>
    simp only [doOp]
    obtain ⟨v, e1, e2⟩ := storeOpK_spec hk
    exact ⟨C, _, hCS, by simp only [e1, Option.map_some], e2⟩
  case binOp o t x y p => simp only [doOp]; exact kv (binOpK_spec hk)
  case makeSlice t l c => simp only [doOp]; exact kf (makeSliceOpK_spec hk)
  case slice t x lo hi mx => simp only [doOp]; exact kv (sliceOpK_spec hk)
  case indexAddr t x i => simp only [doOp]; exact kv (indexAddrOpK_spec hk)
  case index t x i => simp only [doOp]; exact kv (indexOpK_spec hk)
  case call c =>
    cases hc : c.callee with
    | builtin b =>
      simp only [hc, doOp] at hk ⊢
      cases b
      case len =>
        simp only at hk
        split at hk
        · rename_i x hx
          split at hk
          · rename_i t ht
            obtain ⟨v, e1, e2⟩ := lenOpK_spec hk
            exact ⟨C, _, hCS, by simp only [hx, builtinOp, ht, e1, Option.map_some], e2⟩
          · cases hk
        · cases hk
      case append =>
        simp only at hk
        split at hk
        · rename_i s x hx
          obtain ⟨v, e1, e2⟩ := appendOpK_spec hk
          exact ⟨C, _, hCS, by simp only [hx, builtinOp, e1, Option.map_some], e2⟩
        · cases hk
      all_goals exact kf (bindK hk)
    | invoke rc m =>
      simp only [hc] at hk
      cases hk
    | value f =>
      simp only [hc] at hk ⊢
      split at hk
      · rename_i g caps hg
        simp only [hg]
        exact callCoreK_spec hC hk
      · cases hk
  case makeFunc fn first caps => exact other hk (by cases fn <;> rfl)
  all_goals exact other hk (by simp only [doOp])

end
end Go.Pu
end

section
/- The pure machine, thirty-fourth part: the second form of code and of functions. -/
set_option linter.unusedSimpArgs false
set_option linter.unusedVariables false
namespace Go.Pu

section
variable {R : Type} (B : Bool → Option R → Option R → Option R) (P : Program) (CK : CallK R) (M : FuncId → Bool)

def runOpsK (ops : Array Oper) : List Oper → List PV → Heap → (List PV → Heap → Option R) → Option R
  | [], ts, h, k => k ts h
  | o :: rest, ts, h, k =>
    let go (ts : List PV) : Option R := doOpK B P CK M none ts h o.op fun r => runOpsK ops rest (put ts o.dst r.1.1) r.1.2 k
    match o.guard with
    | none => go ts
    | some (j, want) =>
      match (ops[j]?).bind (·.dst) with
      | none => none
      | some d =>
        match ts.getD d .top with
        | .bool b =>
          B b
            (if want then go (ts.set d (.bool true)) else runOpsK ops rest (put (ts.set d (.bool true)) o.dst (.tuple [])) h k)
            (if want then runOpsK ops rest (put (ts.set d (.bool false)) o.dst (.tuple [])) h k else go (ts.set d (.bool false)))
        | .tuple [] => runOpsK ops rest (put ts o.dst (.tuple [])) h k
        | _ => none

def runDrawK (ops : Array Oper) : List Oper → Nat → List Foot → List PV → Heap → (List PV → Heap → Option R) → Option R
  | [], _, F, ts, h, k => if dynOK ops F then k ts h else none
  | o :: rest, s, F, ts, h, k =>
    let go (ts : List PV) : Option R :=
      if alFree h (slotAt o s) then
        doOpK B P CK M (slotAt o s) ts h o.op fun r => runDrawK ops rest (s + slotsOf o.op) (F ++ [(slotIds (slotAt o s) 1 ++ r.2.1, r.2.2)]) (put ts o.dst r.1.1) r.1.2 k
      else none
    match o.guard with
    | none => go ts
    | some (j, want) =>
      match (ops[j]?).bind (·.dst) with
      | none => none
      | some d =>
        match ts.getD d .top with
        | .bool b =>
          B b
            (if want then go (ts.set d (.bool true)) else runDrawK ops rest (s + slotsOf o.op) (F ++ [([], [])]) (put (ts.set d (.bool true)) o.dst (.tuple [])) h k)
            (if want then runDrawK ops rest (s + slotsOf o.op) (F ++ [([], [])]) (put (ts.set d (.bool false)) o.dst (.tuple [])) h k else go (ts.set d (.bool false)))
        | .tuple [] => runDrawK ops rest (s + slotsOf o.op) (F ++ [([], [])]) (put ts o.dst (.tuple [])) h k
        | _ => none

/-- what a loop tells, told once -/
abbrev Smy (R : Type) := List PV → Heap → (Ex → List PV → Heap → Option R) → Option R

def runK (LS : Nat → Option (Smy R)) (n kk : Nat) (live : Nat → Option (List Nat)) : Code → List PV → Heap → (Ex → List PV → Heap → Option R) → Option R
  | .skip, ts, h, k => k .normal ts h
  | .label _, ts, h, k => k .normal ts h
  | .region _ ops d, ts, h, k => if d = true then (if staticOK ops then runDrawK B P CK M ops ops.toList h.length [] ts (reserve ops h) (k .normal) else none) else runOpsK B P CK M ops ops.toList ts h (k .normal)
  | .seq a b, ts, h, k => runK LS n kk live a ts h fun e ts' h' =>
    match e with
    | .normal => runK LS n kk live b ts' h' k
    | .exit i => k (.exit i) ts' h'
    | .ret => k .ret ts' h'
  | .cond c a b, ts, h, k =>
    match ev ts c with
    | .bool t => B t (runK LS n kk live a ts h k) (runK LS n kk live b ts h k)
    | _ => none
  | .block id a, ts, h, k => runK LS n kk live a ts h fun e ts' h' =>
    match e with
    | .normal => k .normal ts' h'
    | .exit i => if i = id then k .normal ts' h' else k (.exit i) ts' h'
    | .ret => k .ret ts' h'
  | .loop a, ts, h, k => match LS (rid a) with
    | some g => (cleanX kk live (rid a) .normal ts h).bind fun c => g c.1 c.2 k
    | none => loopN (runK LS n kk live a) (cleanX kk live (rid a)) n ts h k
  | .scope a, ts, h, k => runK LS n kk live a ts h k
  | .exit i, ts, h, k => k (.exit i) ts h
  | .ret, ts, h, k => k .ret ts h
  | _, _, _, _ => none
end

def Tr.go {R : Type} (B : Bool → Option R → Option R → Option R) (k : PV × List Blk → Option R) : Tr → Option R
  | .fail => none
  | .ret v h => k (v, h)
  | .test b x y => B b (x.go B k) (y.go B k)

theorem Tr.go_val {R : Type} {k : PV × List Blk → Option R} {r : R} : ∀ {t : Tr}, t.go br k = some r → ∃ y, t.val = some y ∧ k y = some r
  | .fail, h => by cases h
  | .ret v hh, h => ⟨(v, hh), rfl, h⟩
  | .test b x y, h => by
    simp only [Tr.go, br] at h
    simp only [Tr.val]
    split at h
    · rename_i hb; rw [if_pos hb]; exact Tr.go_val h
    · rename_i hb; rw [if_neg hb]; exact Tr.go_val h

def callK {R : Type} (B : Bool → Option R → Option R → Option R) (P : Program) (X : Ext) (M : FuncId → Bool) (L : FuncId → Nat → Option (List Nat)) (LS : FuncId → Nat → Nat → Option (Smy R)) : Nat → CallK R
  | 0, _, _, _, _ => none
  | n + 1, f, xs, hc, k =>
    match X f with
    | some g => (g xs hc).go B k
    | none =>
    match P.funcs[f]? with
    | none => none
    | some fn =>
      match fn.body with
      | none => none
      | some body =>
        runK B P (callK B P X M L LS n) M (LS f hc.length) n hc.length (L f) body (xs ++ List.replicate (fn.ntmps - xs.length) .top) hc fun e ts h =>
          match e with
          | .exit _ => none
          | _ => (finish P fn hc.length ts h).bind k

end Go.Pu
end

section
/- The pure machine: what a continuation is told. -/
set_option linter.unusedSimpArgs false
set_option linter.unusedVariables false
namespace Go.Pu

abbrev Out := Ex × List PV × Heap
def idk : Ex → List PV → Heap → Option Out := fun e ts h => some (e, ts, h)
def idk2 : List PV → Heap → Option (List PV × Heap) := fun ts h => some (ts, h)

section
variable {P : Program} {C : CallF} {M : FuncId → Bool} {R : Type}

theorem runOps_bind {ops : Array Oper} {F : List PV → Heap → Option R} : ∀ (rest : List Oper) (ts : List PV) (h : Heap), runOps P C M ops rest ts h F = (runOps P C M ops rest ts h idk2).bind fun q => F q.1 q.2
  | [], ts, h => rfl
  | o :: rest, ts, h => by
    have ih := fun ts h => runOps_bind (ops := ops) (F := F) rest ts h
    have go : ∀ ts, ((doOp P C M none ts h o.op).bind fun r => runOps P C M ops rest (put ts o.dst r.1) r.2 F) = ((doOp P C M none ts h o.op).bind fun r => runOps P C M ops rest (put ts o.dst r.1) r.2 idk2).bind fun q => F q.1 q.2 := by
      intro ts
      rw [Option.bind_assoc]
      congr 1
      funext r
      exact ih _ _
    unfold runOps
    dsimp only
    split
    · exact go ts
    · split
      · rfl
      · split
        · split
          · split
            · exact go _
            · exact ih _ _
          · split
            · exact ih _ _
            · exact go _
        · exact ih _ _
        · rfl

theorem runDraw_bind {ops : Array Oper} {F : List PV → Heap → Option R} : ∀ (rest : List Oper) (s : Nat) (Fs : List Foot) (ts : List PV) (h : Heap), runDraw P C M ops rest s Fs ts h F = (runDraw P C M ops rest s Fs ts h idk2).bind fun q => F q.1 q.2
  | [], s, Fs, ts, h => by
    simp only [runDraw]
    split <;> rfl
  | o :: rest, s, Fs, ts, h => by
    have ih := fun s Fs ts h => runDraw_bind (ops := ops) (F := F) rest s Fs ts h
    have go : ∀ ts, ((doOpG P C M (slotAt o s) ts h o.op).bind fun r => runDraw P C M ops rest (s + slotsOf o.op) (Fs ++ [r.2]) (put ts o.dst r.1.1) r.1.2 F) =
        ((doOpG P C M (slotAt o s) ts h o.op).bind fun r => runDraw P C M ops rest (s + slotsOf o.op) (Fs ++ [r.2]) (put ts o.dst r.1.1) r.1.2 idk2).bind fun q => F q.1 q.2 := by
      intro ts
      rw [Option.bind_assoc]
      congr 1
      funext r
      exact ih _ _ _ _
    unfold runDraw
    dsimp only
    split
    · exact go ts
    · split
      · rfl
      · split
        · split
          · split
            · exact go _
            · exact ih _ _ _ _
          · split
            · exact ih _ _ _ _
            · exact go _
        · exact ih _ _ _ _
        · rfl

theorem loopN_bind {rn : (R : Type) → List PV → Heap → (Ex → List PV → Heap → Option R) → Option R} {clean : Ex → List PV → Heap → Option (List PV × Heap)} (hr : ∀ (R : Type) ts h (F : Ex → List PV → Heap → Option R), rn R ts h F = (rn Out ts h idk).bind fun q => F q.1 q.2.1 q.2.2) {F : Ex → List PV → Heap → Option R} :
    ∀ (n : Nat) (ts : List PV) (h : Heap), loopN (rn R) clean n ts h F = (loopN (rn Out) clean n ts h idk).bind fun q => F q.1 q.2.1 q.2.2
  | 0, _, _ => rfl
  | n + 1, ts, h => by
    simp only [loopN]
    rw [Option.bind_assoc]
    congr 1
    funext c
    refine (hr R c.1 c.2 _).trans (Eq.trans ?_ (congrArg (fun z : Option Out => z.bind fun q => F q.1 q.2.1 q.2.2) (hr Out c.1 c.2 _)).symm)
    rw [Option.bind_assoc]
    congr 1
    funext q
    obtain ⟨e, ts', h'⟩ := q
    cases e with
    | normal => exact loopN_bind hr n ts' h'
    | exit i => simp only [Option.bind_assoc]; rfl
    | ret => simp only [Option.bind_assoc]; rfl

theorem run_bind {n kk : Nat} {live : Nat → Option (List Nat)} : ∀ (c : Code) (R : Type) (ts : List PV) (h : Heap) (F : Ex → List PV → Heap → Option R), run P C M n kk live c ts h F = (run P C M n kk live c ts h idk).bind fun q => F q.1 q.2.1 q.2.2 := by
  intro c
  induction c with
  | skip => intro R ts h F; rfl
  | label l => intro R ts h F; rfl
  | region id ops d =>
    intro R ts h F
    simp only [run]
    split
    · split
      · rw [runDraw_bind, runDraw_bind (F := idk .normal), Option.bind_assoc]
        rfl
      · rfl
    · rw [runOps_bind, runOps_bind (F := idk .normal), Option.bind_assoc]
      rfl
  | seq x y ihx ihy =>
    intro R ts h F
    simp only [run]
    refine (ihx R ts h _).trans (Eq.trans ?_ (congrArg (fun z : Option Out => z.bind fun q => F q.1 q.2.1 q.2.2) (ihx Out ts h _)).symm)
    rw [Option.bind_assoc]
    congr 1
    funext q
    obtain ⟨e, ts', h'⟩ := q
    cases e with
    | normal => exact ihy R ts' h' F
    | exit i => rfl
    | ret => rfl
  | cond c x y ihx ihy =>
    intro R ts h F
    simp only [run]
    split
    · split
      · exact ihx R ts h F
      · exact ihy R ts h F
    · rfl
  | block id x ih =>
    intro R ts h F
    simp only [run]
    refine (ih R ts h _).trans (Eq.trans ?_ (congrArg (fun z : Option Out => z.bind fun q => F q.1 q.2.1 q.2.2) (ih Out ts h _)).symm)
    rw [Option.bind_assoc]
    congr 1
    funext q
    obtain ⟨e, ts', h'⟩ := q
    cases e with
    | normal => rfl
    | exit i => dsimp only; split <;> rfl
    | ret => rfl
  | loop x ih =>
    intro R ts h F
    simp only [run]
    exact loopN_bind (rn := fun R => run (R := R) P C M n kk live x) (fun R ts h F => ih R ts h F) n ts h
  | scope x ih => intro R ts h F; exact ih R ts h F
  | exit i => intro R ts h F; rfl
  | ret => intro R ts h F; rfl
  | goto l => intro R ts h F; rfl
  | _ => intros; rfl

end
end Go.Pu
end

section
/- The pure machine: what the second form tells, the first one tells with fuel enough. -/
set_option linter.unusedSimpArgs false
set_option linter.unusedVariables false
namespace Go.Pu

def loopsIn : Code → List Code
  | .seq a b => loopsIn a ++ loopsIn b
  | .cond _ a b => loopsIn a ++ loopsIn b
  | .block _ a => loopsIn a
  | .loop a => a :: loopsIn a
  | .scope a => loopsIn a
  | _ => []

section
variable {R : Type} (P : Program) (X : Ext) (M : FuncId → Bool) (L : FuncId → Nat → Option (List Nat))

def InS (C : CallF) : Prop := ∃ N, C = call P X M L N

def RunsTo (N kk : Nat) (live : Nat → Option (List Nat)) (c : Code) (ts : List PV) (h : Heap) (o : Out) : Prop := run P (call P X M L N) M N kk live c ts h idk = some o

def LoopTo (N kk : Nat) (live : Nat → Option (List Nat)) (a : Code) (ts : List PV) (h : Heap) (o : Out) : Prop :=
  loopN (run P (call P X M L N) M N kk live a) (cleanX kk live (rid a)) N ts h idk = some o

/-- the loops' table is right for some code -/
def LSOK (LS : Nat → Option (Smy R)) (kk : Nat) (live : Nat → Option (List Nat)) (c : Code) : Prop :=
  ∀ a ∈ loopsIn c, ∀ g, LS (rid a) = some g → ∀ ts h c k r, cleanX kk live (rid a) .normal ts h = some c → g c.1 c.2 k = some r → ∃ N o, LoopTo P X M L N kk live a ts h o ∧ k o.1 o.2.1 o.2.2 = some r
end

section
variable {R : Type} {P : Program} {X : Ext} {M : FuncId → Bool} {L : FuncId → Nat → Option (List Nat)} {CK : CallK R}

theorem RunsTo.mono {N N' kk : Nat} {live : Nat → Option (List Nat)} {c : Code} {ts : List PV} {h : Heap} {o : Out} (hn : N ≤ N') (hr : RunsTo P X M L N kk live c ts h o) : RunsTo P X M L N' kk live c ts h o :=
  run_mono (call_mono N N' hn) hn c ts h idk idk o (fun _ _ _ _ h => h) hr

theorem LoopTo.mono {N N' kk : Nat} {live : Nat → Option (List Nat)} {a : Code} {ts : List PV} {h : Heap} {o : Out} (hn : N ≤ N') (hr : LoopTo P X M L N kk live a ts h o) : LoopTo P X M L N' kk live a ts h o :=
  loopN_mono (fun ts h k k' r hs hh => run_mono (call_mono N N' hn) hn a ts h k k' r hs hh) (fun _ _ _ _ h => h) N N' ts h o hn hr

theorem inS_nonempty : ∃ C, InS P X M L C := ⟨_, 0, rfl⟩

theorem runOpsK_ev (hC : CallKIn (InS P X M L) CK) {ops : Array Oper} {k : List PV → Heap → Option R} {r : R} : ∀ (rest : List Oper) (ts : List PV) (h : Heap), runOpsK br P CK M ops rest ts h k = some r →
    ∃ N q, runOps P (call P X M L N) M ops rest ts h idk2 = some q ∧ k q.1 q.2 = some r
  | [], ts, h, hk => ⟨0, (ts, h), rfl, hk⟩
  | o :: rest, ts, h, hk => by
    have go : ∀ ts, (doOpK br P CK M none ts h o.op fun r => runOpsK br P CK M ops rest (put ts o.dst r.1.1) r.1.2 k) = some r →
        ∃ N q, ((doOp P (call P X M L N) M none ts h o.op).bind fun r => runOps P (call P X M L N) M ops rest (put ts o.dst r.1) r.2 idk2) = some q ∧ k q.1 q.2 = some r := by
      intro ts hk
      obtain ⟨C, v, ⟨N1, rfl⟩, e1, e2⟩ := doOpK_spec hC inS_nonempty hk
      obtain ⟨N2, q, e3, e4⟩ := runOpsK_ev hC rest _ _ e2
      refine ⟨max N1 N2, q, ?_, e4⟩
      rw [doOp_mono (call_mono N1 (max N1 N2) (Nat.le_max_left _ _)) (doOpF_doOp e1)]
      exact runOps_mono (call_mono N2 (max N1 N2) (Nat.le_max_right _ _)) (fun _ _ _ h => h) rest _ _ _ e3
    unfold runOpsK at hk
    unfold runOps
    dsimp only at hk ⊢
    split at hk
    · rename_i hg; simp only [hg]; exact go ts hk
    · rename_i j want hg
      simp only [hg]
      split at hk
      · cases hk
      · rename_i d hd
        simp only [hd]
        split at hk
        · rename_i b hb
          simp only [hb]
          unfold br at hk
          split at hk
          · rename_i hbt
            simp only [if_pos hbt]
            split at hk
            · rename_i hw; simp only [if_pos hw]; exact go _ hk
            · rename_i hw; simp only [if_neg hw]; exact runOpsK_ev hC rest _ _ hk
          · rename_i hbt
            simp only [if_neg hbt]
            split at hk
            · rename_i hw; simp only [if_pos hw]; exact runOpsK_ev hC rest _ _ hk
            · rename_i hw; simp only [if_neg hw]; exact go _ hk
        · rename_i hb
          simp only [hb]
          exact runOpsK_ev hC rest _ _ hk
        · cases hk

theorem runDrawK_ev (hC : CallKIn (InS P X M L) CK) {ops : Array Oper} {k : List PV → Heap → Option R} {r : R} : ∀ (rest : List Oper) (s : Nat) (Fs : List Foot) (ts : List PV) (h : Heap), runDrawK br P CK M ops rest s Fs ts h k = some r →
    ∃ N q, runDraw P (call P X M L N) M ops rest s Fs ts h idk2 = some q ∧ k q.1 q.2 = some r
  | [], s, Fs, ts, h, hk => by
    simp only [runDrawK] at hk
    simp only [runDraw]
    split at hk
    · rename_i hd; exact ⟨0, (ts, h), by rw [if_pos hd]; rfl, hk⟩
    · cases hk
  | o :: rest, s, Fs, ts, h, hk => by
    have go : ∀ ts, (if alFree h (slotAt o s) then doOpK br P CK M (slotAt o s) ts h o.op fun r => runDrawK br P CK M ops rest (s + slotsOf o.op) (Fs ++ [(slotIds (slotAt o s) 1 ++ r.2.1, r.2.2)]) (put ts o.dst r.1.1) r.1.2 k else none) = some r →
        ∃ N q, ((doOpG P (call P X M L N) M (slotAt o s) ts h o.op).bind fun r => runDraw P (call P X M L N) M ops rest (s + slotsOf o.op) (Fs ++ [r.2]) (put ts o.dst r.1.1) r.1.2 idk2) = some q ∧ k q.1 q.2 = some r := by
      intro ts hk
      split at hk
      · rename_i ha
        obtain ⟨C, v, ⟨N1, rfl⟩, e1, e2⟩ := doOpK_spec hC inS_nonempty hk
        obtain ⟨N2, q, e3, e4⟩ := runDrawK_ev hC rest _ _ _ _ e2
        refine ⟨max N1 N2, q, ?_, e4⟩
        have hg : doOpG P (call P X M L N1) M (slotAt o s) ts h o.op = some (v.1, (slotIds (slotAt o s) 1 ++ v.2.1, v.2.2)) := by
          unfold doOpG
          rw [if_pos ha, e1]; rfl
        rw [doOpG_mono (call_mono N1 (max N1 N2) (Nat.le_max_left _ _)) hg]
        exact runDraw_mono (call_mono N2 (max N1 N2) (Nat.le_max_right _ _)) (fun _ _ _ h => h) rest _ _ _ _ _ e3
      · cases hk
    unfold runDrawK at hk
    unfold runDraw
    dsimp only at hk ⊢
    split at hk
    · rename_i hg; simp only [hg]; exact go ts hk
    · rename_i j want hg
      simp only [hg]
      split at hk
      · cases hk
      · rename_i d hd
        simp only [hd]
        split at hk
        · rename_i b hb
          simp only [hb]
          unfold br at hk
          split at hk
          · rename_i hbt
            simp only [if_pos hbt]
            split at hk
            · rename_i hw; simp only [if_pos hw]; exact go _ hk
            · rename_i hw; simp only [if_neg hw]; exact runDrawK_ev hC rest _ _ _ _ hk
          · rename_i hbt
            simp only [if_neg hbt]
            split at hk
            · rename_i hw; simp only [if_pos hw]; exact runDrawK_ev hC rest _ _ _ _ hk
            · rename_i hw; simp only [if_neg hw]; exact go _ hk
        · rename_i hb
          simp only [hb]
          exact runDrawK_ev hC rest _ _ _ _ hk
        · cases hk

end
end Go.Pu
end

section
/- The pure machine: what the second form tells of code and functions, the first one tells with fuel enough. -/
set_option linter.unusedSimpArgs false
set_option linter.unusedVariables false
namespace Go.Pu

section
variable {R : Type} {P : Program} {X : Ext} {M : FuncId → Bool} {L : FuncId → Nat → Option (List Nat)} {CK : CallK R}

/-- one round, and what is behind it -/
theorem LoopTo.next {kk : Nat} {live : Nat → Option (List Nat)} {a : Code} {ts : List PV} {h : Heap} {c : List PV × Heap} {ts' : List PV} {h' : Heap} {o : Out} {N1 N2 : Nat} (hc : cleanX kk live (rid a) .normal ts h = some c) (h1 : RunsTo P X M L N1 kk live a c.1 c.2 (.normal, ts', h'))
    (h2 : LoopTo P X M L N2 kk live a ts' h' o) : ∃ N, LoopTo P X M L N kk live a ts h o := by
  have g1 := h1.mono (N' := max N1 N2 + 1) (by omega)
  refine ⟨max N1 N2 + 1, ?_⟩
  unfold LoopTo RunsTo at *
  simp only [loopN, hc, Option.bind_some]
  rw [run_bind, g1]
  simp only [Option.bind_some]
  exact loopN_mono (fun ts h k k' r hs hh => run_mono (call_mono N2 (max N1 N2 + 1) (by omega)) (by omega) a ts h k k' r hs hh) (fun _ _ _ _ h => h) N2 (max N1 N2) ts' h' o (by omega) h2

theorem LoopTo.stop {kk : Nat} {live : Nat → Option (List Nat)} {a : Code} {ts : List PV} {h : Heap} {c c' : List PV × Heap} {e : Ex} {ts' : List PV} {h' : Heap} {N1 : Nat} (he : e ≠ .normal) (hc : cleanX kk live (rid a) .normal ts h = some c) (h1 : RunsTo P X M L N1 kk live a c.1 c.2 (e, ts', h'))
    (hc' : cleanX kk live (rid a) e ts' h' = some c') : ∃ N, LoopTo P X M L N kk live a ts h (e, c'.1, c'.2) := by
  have g1 := h1.mono (N' := N1 + 1) (by omega)
  refine ⟨N1 + 1, ?_⟩
  unfold LoopTo RunsTo at *
  simp only [loopN, hc, Option.bind_some]
  rw [run_bind, g1]
  simp only [Option.bind_some]
  cases e with
  | normal => exact absurd rfl he
  | exit i => simp only [hc', Option.bind_some]; rfl
  | ret => simp only [hc', Option.bind_some]; rfl

theorem loopK_ev {kk : Nat} {live : Nat → Option (List Nat)} {a : Code} {runA : List PV → Heap → (Ex → List PV → Heap → Option R) → Option R}
    (hr : ∀ ts h k r, runA ts h k = some r → ∃ N o, RunsTo P X M L N kk live a ts h o ∧ k o.1 o.2.1 o.2.2 = some r) {k : Ex → List PV → Heap → Option R} {r : R} :
    ∀ (n : Nat) (ts : List PV) (h : Heap), loopN runA (cleanX kk live (rid a)) n ts h k = some r → ∃ N o, LoopTo P X M L N kk live a ts h o ∧ k o.1 o.2.1 o.2.2 = some r
  | 0, _, _, hk => by cases hk
  | n + 1, ts, h, hk => by
    simp only [loopN] at hk
    obtain ⟨c, e1, hk⟩ := bindK hk
    obtain ⟨N1, ⟨e, ts', h'⟩, e2, e3⟩ := hr _ _ _ _ hk
    cases e with
    | normal =>
      obtain ⟨N2, o, e4, e5⟩ := loopK_ev hr n ts' h' e3
      obtain ⟨N, e6⟩ := LoopTo.next e1 e2 e4
      exact ⟨N, o, e6, e5⟩
    | exit i =>
      obtain ⟨c', e4, e5⟩ := bindK e3
      obtain ⟨N, e6⟩ := LoopTo.stop (by simp) e1 e2 e4
      exact ⟨N, _, e6, e5⟩
    | ret =>
      obtain ⟨c', e4, e5⟩ := bindK e3
      obtain ⟨N, e6⟩ := LoopTo.stop (by simp) e1 e2 e4
      exact ⟨N, _, e6, e5⟩

theorem runK_ev (hC : CallKIn (InS P X M L) CK) {LS : Nat → Option (Smy R)} {n kk : Nat} {live : Nat → Option (List Nat)} : ∀ (c : Code) (ts : List PV) (h : Heap) (k : Ex → List PV → Heap → Option R) (r : R), LSOK P X M L LS kk live c → runK br P CK M LS n kk live c ts h k = some r →
    ∃ N o, RunsTo P X M L N kk live c ts h o ∧ k o.1 o.2.1 o.2.2 = some r := by
  intro c
  induction c with
  | skip => intro ts h k r hl hk; exact ⟨0, (.normal, ts, h), rfl, hk⟩
  | label l => intro ts h k r hl hk; exact ⟨0, (.normal, ts, h), rfl, hk⟩
  | region id ops d =>
    intro ts h k r hl hk
    simp only [runK] at hk
    unfold RunsTo
    simp only [run]
    split at hk
    · rename_i hd
      simp only [hd, if_true]
      split at hk
      · rename_i hst
        simp only [hst, if_true]
        obtain ⟨N, q, e1, e2⟩ := runDrawK_ev hC _ _ _ _ _ hk
        exact ⟨N, (.normal, q.1, q.2), by rw [runDraw_bind, e1]; rfl, e2⟩
      · cases hk
    · rename_i hd
      simp only [hd, if_false]
      obtain ⟨N, q, e1, e2⟩ := runOpsK_ev hC _ _ _ hk
      exact ⟨N, (.normal, q.1, q.2), by rw [if_neg (by simp), runOps_bind, e1]; rfl, e2⟩
  | seq x y ihx ihy =>
    intro ts h k r hl hk
    simp only [runK] at hk
    obtain ⟨N1, ⟨e, ts', h'⟩, e1, e2⟩ := ihx _ _ _ _ (fun a ha => hl a (by simp only [loopsIn, List.mem_append]; exact .inl ha)) hk
    cases e with
    | normal =>
      obtain ⟨N2, o, e3, e4⟩ := ihy _ _ _ _ (fun a ha => hl a (by simp only [loopsIn, List.mem_append]; exact .inr ha)) e2
      refine ⟨max N1 N2, o, ?_, e4⟩
      have g1 := e1.mono (N' := max N1 N2) (Nat.le_max_left _ _)
      have g2 := e3.mono (N' := max N1 N2) (Nat.le_max_right _ _)
      unfold RunsTo at *
      simp only [run]
      rw [run_bind, g1]
      exact g2
    | exit i =>
      refine ⟨N1, (.exit i, ts', h'), ?_, e2⟩
      unfold RunsTo at *
      simp only [run]
      rw [run_bind, e1]
      rfl
    | ret =>
      refine ⟨N1, (.ret, ts', h'), ?_, e2⟩
      unfold RunsTo at *
      simp only [run]
      rw [run_bind, e1]
      rfl
  | cond c x y ihx ihy =>
    intro ts h k r hl hk
    simp only [runK] at hk
    split at hk
    · rename_i t ht
      unfold br at hk
      split at hk
      · rename_i hc
        obtain ⟨N, o, e1, e2⟩ := ihx _ _ _ _ (fun a ha => hl a (by simp only [loopsIn, List.mem_append]; exact .inl ha)) hk
        exact ⟨N, o, by unfold RunsTo at *; simp only [run, ht, if_pos hc]; exact e1, e2⟩
      · rename_i hc
        obtain ⟨N, o, e1, e2⟩ := ihy _ _ _ _ (fun a ha => hl a (by simp only [loopsIn, List.mem_append]; exact .inr ha)) hk
        exact ⟨N, o, by unfold RunsTo at *; simp only [run, ht, if_neg hc]; exact e1, e2⟩
    · cases hk
  | block id x ih =>
    intro ts h k r hl hk
    simp only [runK] at hk
    obtain ⟨N1, ⟨e, ts', h'⟩, e1, e2⟩ := ih _ _ _ _ (fun a ha => hl a ha) hk
    cases e with
    | normal => exact ⟨N1, (.normal, ts', h'), by unfold RunsTo at *; simp only [run]; rw [run_bind, e1]; rfl, e2⟩
    | exit i =>
      dsimp only at e2
      split at e2
      · rename_i hi; exact ⟨N1, (.normal, ts', h'), by unfold RunsTo at *; simp only [run]; rw [run_bind, e1]; exact if_pos hi, e2⟩
      · rename_i hi; exact ⟨N1, (.exit i, ts', h'), by unfold RunsTo at *; simp only [run]; rw [run_bind, e1]; exact if_neg hi, e2⟩
    | ret => exact ⟨N1, (.ret, ts', h'), by unfold RunsTo at *; simp only [run]; rw [run_bind, e1]; rfl, e2⟩
  | loop x ih =>
    intro ts h k r hl hk
    simp only [runK] at hk
    have up : ∀ {N : Nat} {o : Out}, LoopTo P X M L N kk live x ts h o → RunsTo P X M L N kk live (.loop x) ts h o := fun hh => hh
    split at hk
    · rename_i g hg
      obtain ⟨c, e0, hk⟩ := bindK hk
      obtain ⟨N, o, e1, e2⟩ := hl x (by simp [loopsIn]) g hg ts h c k r e0 hk
      exact ⟨N, o, up e1, e2⟩
    · obtain ⟨N, o, e1, e2⟩ := loopK_ev (fun ts h k r hk => ih ts h k r (fun a ha => hl a (by simp only [loopsIn, List.mem_cons]; exact .inr ha)) hk) n ts h hk
      exact ⟨N, o, up e1, e2⟩
  | scope x ih => intro ts h k r hl hk; exact ih _ _ _ _ (fun a ha => hl a ha) hk
  | exit i => intro ts h k r hl hk; exact ⟨0, (.exit i, ts, h), rfl, hk⟩
  | ret => intro ts h k r hl hk; exact ⟨0, (.ret, ts, h), rfl, hk⟩
  | goto l => intro ts h k r hl hk; simp [runK] at hk
  | _ => intros; rename_i hk; simp [runK] at hk

/-- the table of loops is right, all over a program -/
def LoopsOK (P : Program) (X : Ext) (M : FuncId → Bool) (L : FuncId → Nat → Option (List Nat)) (LS : FuncId → Nat → Nat → Option (Smy R)) : Prop :=
  ∀ f fn body kk, P.funcs[f]? = some fn → fn.body = some body → LSOK P X M L (LS f kk) kk (L f) body

theorem callK_ev {LS : FuncId → Nat → Nat → Option (Smy R)} (hLS : LoopsOK P X M L LS) (n : Nat) : CallKIn (InS P X M L) (callK br P X M L LS n) := by
  induction n with
  | zero => intro f xs hc k r h; cases h
  | succ n ih =>
    intro f xs hc k r h
    simp only [callK] at h
    split at h
    · rename_i g hg
      obtain ⟨y, e1, e2⟩ := Tr.go_val h
      exact ⟨_, y, ⟨1, rfl⟩, by simp only [call, hg, e1], e2⟩
    · rename_i hX
      split at h
      · cases h
      · rename_i fn hfn
        split at h
        · cases h
        · rename_i body hb
          obtain ⟨N, ⟨e, ts', h'⟩, e1, e2⟩ := runK_ev ih body _ _ _ _ (hLS f fn body _ hfn hb) h
          have fin : (finish P fn hc.length ts' h').bind k = some r → e ≠ .normal ∧ (∀ i, e ≠ .exit i) ∨ e = .normal → ∃ C y, InS P X M L C ∧ C f xs hc = some y ∧ k y = some r := by
            intro hk he
            obtain ⟨y, f1, f2⟩ := bindK hk
            refine ⟨_, y, ⟨N + 1, rfl⟩, ?_, f2⟩
            simp only [call, hX, hfn, hb]
            unfold RunsTo at e1
            rw [run_bind, e1]
            simp only [Option.bind_some]
            cases e with
            | normal => exact f1
            | exit i => rcases he with ⟨_, he⟩ | he
                        · exact absurd rfl (he i)
                        · cases he
            | ret => exact f1
          cases e with
          | normal => exact fin e2 (.inr rfl)
          | exit i => cases e2
          | ret => exact fin e2 (.inl ⟨by simp, by simp⟩)

/-- a loop's summary tells what the loop tells -/
def LoopTells (P : Program) (X : Ext) (M : FuncId → Bool) (L : FuncId → Nat → Option (List Nat)) (kk : Nat) (live : Nat → Option (List Nat)) (a : Code) (g : Smy R) : Prop :=
  ∀ ts h c k r, cleanX kk live (rid a) .normal ts h = some c → g c.1 c.2 k = some r → ∃ N o, LoopTo P X M L N kk live a ts h o ∧ k o.1 o.2.1 o.2.2 = some r

def loopBody (P : Program) (f i : Nat) : Option Code := ((P.funcs[f]?).bind (·.body)).bind fun c => (loopsIn c).find? fun a => rid a == i

def ridsOK (P : Program) : Bool := P.funcs.toList.all fun fn => match fn.body with | none => true | some c => nodup ((loopsIn c).map rid)

theorem find_of_nodup {i : Nat} : ∀ {l : List Code} {a : Code}, nodup (l.map rid) = true → a ∈ l → rid a = i → l.find? (fun a => rid a == i) = some a
  | [], a, _, h, _ => by simp at h
  | b :: l, a, hn, h, he => by
    simp only [List.map_cons, nodup, Bool.and_eq_true] at hn
    rcases List.mem_cons.1 h with rfl | h
    · simp [List.find?_cons, he]
    · have hne : rid b ≠ i := fun hb => by
        have h1 : rid a ∈ l.map rid := List.mem_map.2 ⟨a, h, rfl⟩
        have h2 := hn.1
        simp only [Bool.not_eq_true'] at h2
        have h3 : (l.map rid).contains (rid b) = true := by rw [hb, ← he]; simpa using h1
        rw [h3] at h2; cases h2
      have hne' : (rid b == i) = false := by simpa using hne
      rw [List.find?_cons, hne']
      exact find_of_nodup hn.2 h he

theorem loopsOK_of {LS : FuncId → Nat → Nat → Option (Smy R)} (hr : ridsOK P = true) (h : ∀ f kk i g a, LS f kk i = some g → loopBody P f i = some a → LoopTells P X M L kk (L f) a g) : LoopsOK P X M L LS := by
  intro f fn body kk hf hb a ha g hg
  refine h f kk (rid a) g a hg ?_
  unfold loopBody
  rw [hf]
  simp only [Option.bind_some, hb]
  have hm : fn ∈ P.funcs.toList := by simpa using Array.mem_of_getElem? hf
  have := List.all_eq_true.1 hr fn hm
  rw [hb] at this
  exact find_of_nodup this ha rfl

end
end Go.Pu
end

section
/- The pure machine: functions that are told once, and used as told. -/
set_option linter.unusedSimpArgs false
set_option linter.unusedVariables false
namespace Go.Pu

abbrev Res2 := PV × List Blk

section
variable {P : Program}

theorem val_test {b : Bool} {v : PV} {h : List Blk} {r : Res2} (hg : (Tr.test b (.ret v h) .fail).val = some r) : b = true ∧ r = (v, h) := by
  simp only [Tr.val] at hg
  split at hg
  · rename_i hb; cases hg; exact ⟨hb, rfl⟩
  · cases hg

/-- a function's table row, told by the machine -/
def Tells (P : Program) (X : Ext) (M : FuncId → Bool) (L : FuncId → Nat → Option (List Nat)) (LS : FuncId → Nat → Nat → Option (Smy Res2)) (f : FuncId) (g : List PV → List Blk → Tr) : Prop :=
  ∀ xs hc r, (g xs hc).val = some r → ∃ n, callK br P X M L LS n f xs hc (fun y => some y) = some r

theorem XOK.more (hm : P.follows .mixedOrders = true) (hN : Named P) {X X' : Ext} (hX : XOK P X) {M : FuncId → Bool} {L : FuncId → Nat → Option (List Nat)} {LS : FuncId → Nat → Nat → Option (Smy Res2)} (hLS : LoopsOK P X M L LS)
    (h : ∀ f g, X' f = some g → X f = some g ∨ Tells P X M L LS f g) : XOK P X' := by
  intro f g xs hc r hf hg
  rcases h f g hf with h1 | h1
  · exact hX f g xs hc r h1 hg
  · obtain ⟨n, hn⟩ := h1 xs hc r hg
    obtain ⟨C, y, ⟨N, rfl⟩, e1, e2⟩ := callK_ev hLS n _ _ _ _ _ hn
    cases e2
    obtain ⟨r1, r2⟩ := r
    obtain ⟨f1, f2⟩ := call_ok hm hN hX M L N f xs hc r1 r2 e1
    exact ⟨f1, f2⟩

/-- a law, told by the second form -/
theorem pure_of_callK {X : Ext} {M : FuncId → Bool} {L : FuncId → Nat → Option (List Nat)} {LS : FuncId → Nat → Nat → Option (Smy Res2)} (hLS : LoopsOK P X M L LS) {n : Nat} {f : FuncId} {xs : List PV} {hc : Heap}
    (h : callK br P X M L LS n f xs [] (fun y => some y) = some (.bool true, hc)) : ∃ n hc, call P X M L n f xs [] = some (.bool true, hc) := by
  obtain ⟨C, y, ⟨N, rfl⟩, e1, e2⟩ := callK_ev hLS n _ _ _ _ _ h
  cases e2
  exact ⟨N, hc, e1⟩

/-- no loop is told ahead -/
def noLS : FuncId → Nat → Nat → Option (Smy Res2) := fun _ _ _ => none

theorem noLS_ok (P : Program) (X : Ext) (M : FuncId → Bool) (L : FuncId → Nat → Option (List Nat)) : LoopsOK P X M L noLS :=
  fun _ _ _ _ _ _ a _ g hg => by simp [noLS] at hg

end
end Go.Pu
end

section
/- The pure machine: how a loop's summary is shown, round by round. -/
set_option linter.unusedSimpArgs false
set_option linter.unusedVariables false
namespace Go.Pu

/-- at the end of a round: what is kept -/
def idc (kk : Nat) (live : Nat → Option (List Nat)) (i : Nat) : Ex → List PV → Heap → Option Out := fun e ts h => (cleanX kk live i e ts h).bind fun c => some (e, c.1, c.2)

section
variable {P : Program} {X : Ext} {M : FuncId → Bool} {L : FuncId → Nat → Option (List Nat)}

/-- places, most of them empty -/
def pl (n : Nat) : List (Nat × PV) → List PV
  | [] => List.replicate n .top
  | (i, x) :: r => (pl n r).set i x

theorem loop_runs {CK : CallK Out} (hC : CallKIn (InS P X M L) CK) {LS : Nat → Option (Smy Out)} {n kk : Nat} {live : Nat → Option (List Nat)} {a : Code} (hL : LSOK P X M L LS kk live a)
    {S : Type} {inv : S → Prop} {enc : S → List PV × Heap} {mu : S → Nat} {out : S → Out}
    (hstep : ∀ s, inv s → ∃ e c, runK br P CK M LS n kk live a (enc s).1 (enc s).2 (idc kk live (rid a)) = some (e, c) ∧
      ((e = .normal ∧ ∃ s', inv s' ∧ c = enc s' ∧ mu s' < mu s ∧ out s' = out s) ∨ (e ≠ .normal ∧ out s = (e, c)))) :
    ∀ (m : Nat) (s : S), mu s ≤ m → inv s → ∀ ts h, cleanX kk live (rid a) .normal ts h = some (enc s) → ∃ N, LoopTo P X M L N kk live a ts h (out s) := by
  intro m
  induction m with
  | zero =>
    intro s hm hi ts h hc
    obtain ⟨e, c, e1, e2⟩ := hstep s hi
    obtain ⟨N, o, e3, e4⟩ := runK_ev hC a _ _ _ _ hL e1
    obtain ⟨oe, ots, oh⟩ := o
    unfold idc at e4
    obtain ⟨c', e5, e6⟩ := bindK e4
    cases e6
    rcases e2 with ⟨rfl, s', g1, g2, g3, g4⟩ | ⟨g1, g2⟩
    · omega
    · rw [g2]
      exact LoopTo.stop g1 hc e3 e5
  | succ m ih =>
    intro s hm hi ts h hc
    obtain ⟨e, c, e1, e2⟩ := hstep s hi
    obtain ⟨N, o, e3, e4⟩ := runK_ev hC a _ _ _ _ hL e1
    obtain ⟨oe, ots, oh⟩ := o
    unfold idc at e4
    obtain ⟨c', e5, e6⟩ := bindK e4
    cases e6
    rcases e2 with ⟨rfl, s', g1, g2, g3, g4⟩ | ⟨g1, g2⟩
    · obtain ⟨N2, e7⟩ := ih s' (by omega) g1 ots oh (by rw [e5]; exact congrArg some g2)
      rw [← g4]
      exact LoopTo.next hc e3 e7
    · rw [g2]
      exact LoopTo.stop g1 hc e3 e5

theorem loopTells_of {R : Type} {CK : CallK Out} (hC : CallKIn (InS P X M L) CK) {LS : Nat → Option (Smy Out)} {n kk : Nat} {live : Nat → Option (List Nat)} {a : Code} (hL : LSOK P X M L LS kk live a)
    {S : Type} (inv : S → Prop) (enc : S → List PV × Heap) (mu : S → Nat) (out : S → Out) {g : Smy R}
    (hg : ∀ ts h c k r, cleanX kk live (rid a) .normal ts h = some c → g c.1 c.2 k = some r → ∃ s, inv s ∧ c = enc s ∧ k (out s).1 (out s).2.1 (out s).2.2 = some r)
    (hstep : ∀ s, inv s → ∃ e c, runK br P CK M LS n kk live a (enc s).1 (enc s).2 (idc kk live (rid a)) = some (e, c) ∧
      ((e = .normal ∧ ∃ s', inv s' ∧ c = enc s' ∧ mu s' < mu s ∧ out s' = out s) ∨ (e ≠ .normal ∧ out s = (e, c)))) :
    LoopTells P X M L kk live a g := by
  intro ts h c k r hc hk
  obtain ⟨s, h1, h2, h3⟩ := hg ts h c k r hc hk
  subst h2
  obtain ⟨N, h4⟩ := loop_runs hC hL hstep (mu s) s (Nat.le_refl _) h1 ts h hc
  exact ⟨N, out s, h4, h3⟩

/-- no inner loop is told ahead -/
theorem lsok_none {kk : Nat} {live : Nat → Option (List Nat)} {a : Code} {R : Type} : LSOK (R := R) P X M L (fun _ => none) kk live a := fun _ _ _ h => by cases h

end

theorem wrap_i64 {n : Int} (h1 : -9223372036854775808 ≤ n) (h2 : n < 9223372036854775808) : IntKind.i64.wrap n = n := by
  rw [IntKind.wrap_i64]; omega

/-- a loop's body -/
def bodyOf (P : Program) (f i : Nat) : Code := (loopBody P f i).getD .skip

/-- a table of loops -/
def lsT {R : Type} : List (Nat × Nat × Nat × Smy R) → FuncId → Nat → Nat → Option (Smy R)
  | [], _, _, _ => none
  | e :: l, f, kk, i => if f = e.1 ∧ kk = e.2.1 ∧ i = e.2.2.1 then some e.2.2.2 else lsT l f kk i

theorem loopsOK_list {R : Type} {P : Program} {X : Ext} {M : FuncId → Bool} {L : FuncId → Nat → Option (List Nat)} (hr : ridsOK P = true) {l : List (Nat × Nat × Nat × Smy R)}
    (h : ∀ e ∈ l, LoopTells P X M L e.2.1 (L e.1) (bodyOf P e.1 e.2.2.1) e.2.2.2) : LoopsOK P X M L (lsT l) := by
  refine loopsOK_of hr ?_
  intro f kk i g a
  induction l with
  | nil => intro hg; cases hg
  | cons e l ih =>
    intro hg ha
    simp only [lsT] at hg
    split at hg
    · rename_i he
      obtain ⟨rfl, rfl, rfl⟩ := he
      cases hg
      have := h e (by simp)
      unfold bodyOf at this
      rw [ha] at this
      exact this
    · exact ih (fun e he => h e (by simp [he])) hg ha

def liveT : List (Nat × Nat × List Nat) → FuncId → Nat → Option (List Nat)
  | [], _, _ => none
  | e :: l, f, i => if f = e.1 ∧ i = e.2.1 then some e.2.2 else liveT l f i

def extT : List (Nat × (List PV → List Blk → Tr)) → Ext → Ext
  | [], X, f => X f
  | e :: l, X, f => if f = e.1 then some e.2 else extT l X f

theorem xok_list {P : Program} (hm : P.follows .mixedOrders = true) (hN : Named P) {X : Ext} (hX : XOK P X) {M : FuncId → Bool} {L : FuncId → Nat → Option (List Nat)} {LS : FuncId → Nat → Nat → Option (Smy Res2)} (hLS : LoopsOK P X M L LS)
    {l : List (Nat × (List PV → List Blk → Tr))} (h : ∀ e ∈ l, Tells P X M L LS e.1 e.2) : XOK P (extT l X) := by
  refine XOK.more hm hN hX hLS ?_
  intro f g
  induction l with
  | nil => intro hg; exact .inl hg
  | cons e l ih =>
    intro hg
    simp only [extT] at hg
    split at hg
    · rename_i he
      subst he
      cases hg
      exact .inr (h e (by simp))
    · exact ih (fun e he => h e (by simp [he])) hg

theorem pl_length (n : Nat) : ∀ l, (pl n l).length = n
  | [] => by simp [pl]
  | (i, x) :: r => by simp [pl, pl_length n r]

theorem pl_get {n : Nat} : ∀ {l : List (Nat × PV)}, nodup (l.map (·.1)) = true → (∀ p ∈ l, p.1 < n) → ∀ p ∈ l, (pl n l).getD p.1 .top = p.2
  | [], _, _, p, h => by cases h
  | (i, x) :: r, hn, hl, p, h => by
    simp only [List.map_cons, nodup, Bool.and_eq_true, Bool.not_eq_true'] at hn
    rcases List.mem_cons.1 h with rfl | h
    · have h1 := hl (i, x) (by simp)
      simp only at h1
      simp [pl, List.getD, pl_length, h1]
    · have h1 : p.1 ≠ i := fun e => by
        have : (r.map (·.1)).contains i = true := by
          rw [← e]; simpa using ⟨p.2, h⟩
        rw [this] at hn; cases hn.1
      have h2 := pl_get hn.2 (fun p hp => hl p (by simp [hp])) p h
      simp only [pl, List.getD] at h2 ⊢
      rw [List.getElem?_set_ne (by omega)]
      exact h2

theorem pl_get_none {n : Nat} : ∀ {l : List (Nat × PV)} {i : Nat}, (l.map (·.1)).contains i = false → (pl n l).getD i .top = .top
  | [], i, _ => by
    simp only [pl, List.getD, List.getElem?_replicate]
    split <;> rfl
  | (j, x) :: r, i, h => by
    simp only [List.map_cons, List.contains_cons, Bool.or_eq_false_iff, beq_eq_false_iff_ne, ne_eq] at h
    simp only [pl, List.getD]
    rw [List.getElem?_set_ne (fun e => h.1 e.symm)]
    exact pl_get_none h.2

/-- what was cleaned is known by the places that are kept -/
theorem cleaned_pl {kk n : Nat} {live : List Nat} {ts : List PV} {h : Heap} {c : List PV × Heap} (hc : cleanL kk (some live) ts h = some c) (l : List (Nat × PV)) (hn : c.1.length = n) (hl : l.map (·.1) = live) (hd : nodup live = true) (hlt : live.all (fun i => decide (i < n)) = true) (hv : ∀ p ∈ l, c.1.getD p.1 .top = p.2) :
    c.1 = pl n l := by
  subst hl
  have hlt' : ∀ p ∈ l, p.1 < n := fun p hp => by
    have := List.all_eq_true.1 hlt p.1 (by simpa using ⟨p.2, hp⟩)
    simpa using this
  have hg := pl_get hd hlt'
  simp only [cleanL, gc, Option.bind_eq_some_iff] at hc
  obtain ⟨ids, _, hc⟩ := hc
  split at hc
  · have hc1 : c.1 = (ts.mapIdx fun i v => if (l.map (·.1)).contains i then v else .top).map (ren ids.idxOf) := by cases hc; rfl
    apply List.ext_getElem?
    intro i
    by_cases hi : i < n
    · have h1 : i < c.1.length := by omega
      have h2 : i < (pl n l).length := by rw [pl_length]; omega
      rw [List.getElem?_eq_getElem h1, List.getElem?_eq_getElem h2]
      by_cases hcn : (l.map (·.1)).contains i = true
      · have hm : i ∈ l.map (·.1) := by simpa using hcn
        obtain ⟨p, hp, rfl⟩ := List.mem_map.1 hm
        have g1 := hv p hp
        have g2 := hg p hp
        simp only [List.getD, List.getElem?_eq_getElem h1, List.getElem?_eq_getElem h2, Option.getD_some] at g1 g2
        rw [g1, g2]
      · have hcn' : (l.map (·.1)).contains i = false := by simpa using hcn
        have g2 := pl_get_none (n := n) hcn'
        simp only [List.getD, List.getElem?_eq_getElem h2, Option.getD_some] at g2
        rw [g2]
        have h3 : c.1[i]? = some .top := by
          rw [hc1, List.getElem?_map, List.getElem?_mapIdx]
          rw [hc1, List.length_map, List.length_mapIdx] at h1
          rw [List.getElem?_eq_getElem h1]
          simp only [Option.map_some, hcn', if_false, Bool.false_eq_true]
          rfl
        rw [List.getElem?_eq_getElem h1] at h3
        exact h3
    · rw [List.getElem?_eq_none (by omega), List.getElem?_eq_none (by rw [pl_length]; omega)]
  · cases hc

/-- a row of the table is right -/
def EOK (P : Program) (f : FuncId) (g : List PV → List Blk → Tr) : Prop := ∃ X, XOK P X ∧ X f = some g

theorem eok {P : Program} (hm : P.follows .mixedOrders = true) (hN : Named P) {X : Ext} (hX : XOK P X) {M : FuncId → Bool} {L : FuncId → Nat → Option (List Nat)} {LS : FuncId → Nat → Nat → Option (Smy Res2)} (hLS : LoopsOK P X M L LS) {f : FuncId} {g : List PV → List Blk → Tr}
    (h : Tells P X M L LS f g) : EOK P f g := ⟨extT [(f, g)] X, xok_list hm hN hX hLS (by simpa using h), by simp [extT]⟩

theorem EOK.or {P : Program} {f : FuncId} {g g1 g2 : List PV → List Blk → Tr} (h1 : EOK P f g1) (h2 : EOK P f g2) (h : ∀ xs hc r, (g xs hc).val = some r → (g1 xs hc).val = some r ∨ (g2 xs hc).val = some r) : EOK P f g := by
  obtain ⟨X1, a1, b1⟩ := h1
  obtain ⟨X2, a2, b2⟩ := h2
  refine ⟨fun f' => if f' = f then some g else none, fun f' g' xs hc r hf hg => ?_, by simp⟩
  dsimp only at hf
  split at hf
  · rename_i e
    subst e
    cases hf
    rcases h xs hc r hg with h | h
    · exact a1 _ _ xs hc r b1 h
    · exact a2 _ _ xs hc r b2 h
  · cases hf

theorem xokT {P : Program} {X : Ext} (hX : XOK P X) {l : List (Nat × (List PV → List Blk → Tr))} (h : ∀ e ∈ l, EOK P e.1 e.2) : XOK P (extT l X) := by
  intro f g xs hc r hf hg
  induction l with
  | nil => exact hX f g xs hc r hf hg
  | cons e l ih =>
    simp only [extT] at hf
    split at hf
    · rename_i he
      subst he
      cases hf
      obtain ⟨X', h1, h2⟩ := h e (by simp)
      exact h1 _ _ xs hc r h2 hg
    · exact ih (fun e he => h e (by simp [he])) hf

/-- the first place where something is so, or the end -/
def fst (p : Nat → Bool) : Nat → Nat
  | 0 => 0
  | n + 1 => if fst p n < n then fst p n else if p n then n else n + 1

theorem fst_le (p : Nat → Bool) : ∀ n, fst p n ≤ n
  | 0 => Nat.le_refl _
  | n + 1 => by
    have := fst_le p n
    simp only [fst]
    split
    · omega
    · split <;> omega

theorem fst_none {p : Nat → Bool} : ∀ {n : Nat}, (∀ j < n, p j = false) → fst p n = n
  | 0, _ => rfl
  | n + 1, h => by
    have := fst_none (p := p) (n := n) fun j hj => h j (by omega)
    simp [fst, this, h n (by omega)]

theorem fst_at {p : Nat → Bool} {i : Nat} (hi : p i = true) (hb : ∀ j < i, p j = false) : ∀ {n : Nat}, i < n → fst p n = i
  | 0, h => by omega
  | n + 1, h => by
    by_cases hn : i < n
    · have := fst_at hi hb hn
      simp [fst, this, hn]
    · have e : i = n := by omega
      subst e
      have := fst_none hb
      simp [fst, this, hi]

theorem fst_before {p : Nat → Bool} : ∀ {n j : Nat}, j < fst p n → p j = false
  | 0, j, h => by simp [fst] at h
  | n + 1, j, h => by
    simp only [fst] at h
    split at h
    · exact fst_before (n := n) h
    · rename_i h1
      have h2 : fst p n = n := by have := fst_le p n; omega
      split at h
      · exact fst_before (n := n) (by omega)
      · rename_i h3
        by_cases hj : j < n
        · exact fst_before (n := n) (by omega)
        · have : j = n := by omega
          subst this
          simpa using h3

theorem fst_hit {p : Nat → Bool} : ∀ {n : Nat}, fst p n < n → p (fst p n) = true
  | 0, h => by omega
  | n + 1, h => by
    simp only [fst] at h ⊢
    split
    · rename_i h1; exact fst_hit h1
    · rename_i h1
      rw [if_neg h1] at h
      split
      · assumption
      · rename_i h3
        rw [if_neg h3] at h
        omega

/-- a loop whose state is known at each round: it ends at the first round where something is so, or after all -/
theorem search_of {P : Program} {X : Ext} {M : FuncId → Bool} {L : FuncId → Nat → Option (List Nat)} {R : Type} {CK : CallK Out} (hC : CallKIn (InS P X M L) CK) {LS : Nat → Option (Smy Out)} {n kk : Nat} {live : Nat → Option (List Nat)} {a : Code} (hL : LSOK P X M L LS kk live a)
    {σ : Type} (ok : σ → Prop) (N : σ → Nat) (p : σ → Nat → Bool) (enc : σ → Nat → List PV × Heap) (res : σ → Nat → Out) (fin : σ → Out) {g : Smy R} {q : Nat} (hq : rid a = q)
    (hg : ∀ ts h c k r, cleanL kk (live q) ts h = some c → g c.1 c.2 k = some r → ∃ s, ok s ∧ c = enc s 0 ∧
      (br (decide (fst (p s) (N s) < N s)) (k (res s (fst (p s) (N s))).1 (res s (fst (p s) (N s))).2.1 (res s (fst (p s) (N s))).2.2) (k (fin s).1 (fin s).2.1 (fin s).2.2)) = some r)
    (h1 : ∀ s i, ok s → i < N s → p s i = true → (∀ j < i, p s j = false) → (res s i).1 ≠ .normal ∧ runK br P CK M LS n kk live a (enc s i).1 (enc s i).2 (idc kk live q) = some (res s i))
    (h2 : ∀ s i, ok s → i < N s → p s i = false → (∀ j < i, p s j = false) → runK br P CK M LS n kk live a (enc s i).1 (enc s i).2 (idc kk live q) = some (.normal, enc s (i + 1)))
    (h3 : ∀ s, ok s → (∀ j < N s, p s j = false) → (fin s).1 ≠ .normal ∧ runK br P CK M LS n kk live a (enc s (N s)).1 (enc s (N s)).2 (idc kk live q) = some (fin s)) :
    LoopTells P X M L kk live a g := by
  subst hq
  refine loopTells_of (n := n) hC hL (fun s : σ × Nat => ok s.1 ∧ s.2 ≤ N s.1 ∧ ∀ j < s.2, p s.1 j = false) (fun s => enc s.1 s.2) (fun s => N s.1 - s.2)
    (fun s => if fst (p s.1) (N s.1) < N s.1 then res s.1 (fst (p s.1) (N s.1)) else fin s.1) ?_ ?_
  · intro ts h c k r hc hk
    obtain ⟨s, g1, g2, g3⟩ := hg ts h c k r hc hk
    refine ⟨(s, 0), ⟨g1, Nat.zero_le _, fun j hj => by simp at hj⟩, g2, ?_⟩
    unfold br at g3
    simp only [decide_eq_true_eq] at g3
    dsimp only
    split at g3
    · rename_i hf; rw [if_pos hf]; exact g3
    · rename_i hf; rw [if_neg hf]; exact g3
  · rintro ⟨s, i⟩ ⟨g1, g2, g3⟩
    dsimp only at g1 g2 g3 ⊢
    by_cases hi : i < N s
    · by_cases hl : p s i = true
      · obtain ⟨f1, f2⟩ := h1 s i g1 hi hl g3
        refine ⟨_, _, f2, .inr ⟨f1, ?_⟩⟩
        rw [fst_at hl g3 hi, if_pos hi]
      · have hl' : p s i = false := by simpa using hl
        refine ⟨_, _, h2 s i g1 hi hl' g3, .inl ⟨rfl, (s, i + 1), ⟨g1, by dsimp only; omega, ?_⟩, rfl, by dsimp only; omega, rfl⟩⟩
        intro j hj
        dsimp only at hj ⊢
        by_cases e : j = i
        · subst e; exact hl'
        · exact g3 j (by omega)
    · have e : i = N s := by omega
      subst e
      obtain ⟨f1, f2⟩ := h3 s g1 g3
      refine ⟨_, _, f2, .inr ⟨f1, ?_⟩⟩
      rw [fst_none g3, if_neg (by omega)]

end Go.Pu
end

section
/- The pure machine: the second form, its data laid out at each step. -/
set_option linter.unusedSimpArgs false
set_option linter.unusedVariables false
namespace Go.Pu

section
variable {α : Type}

/-- a number that is known -/
def fN (n : Nat) (k : Nat → α) : α :=
  match n with
  | 0 => k 0
  | n + 1 => k (n + 1)

def fB (b : Bool) (k : Bool → α) : α :=
  match b with
  | true => k true
  | false => k false

/-- a value's own form -/
def fV1 (v : PV) (k : PV → α) : α :=
  match v with
  | .top => k .top
  | .bool b => k (.bool b)
  | .int i n => k (.int i n)
  | .str s => k (.str s)
  | .agg cs => k (.agg cs)
  | .tuple vs => k (.tuple vs)
  | .nils => k .nils
  | .lst t es => k (.lst t es)
  | .all b => fN b fun b => k (.all b)
  | .own b o n => fN b fun b => k (.own b o n)
  | .new t es => k (.new t es)
  | .nilp => k .nilp
  | .ptr b o => fN b fun b => fN o fun o => k (.ptr b o)
  | .aptr b i o => fN b fun b => fN o fun o => k (.aptr b i o)
  | .eptr t cs o => fN o fun o => k (.eptr t cs o)
  | .newb t cs => k (.newb t cs)
  | .fn f cs => k (.fn f cs)
  | .nilfn => k .nilfn
  | .iface t v => k (.iface t v)
  | .nili => k .nili

def fL1 : List PV → (List PV → α) → α
  | [], k => k []
  | x :: xs, k => fV1 x fun x => fL1 xs fun xs => k (x :: xs)

def fV2 (v : PV) (k : PV → α) : α :=
  fV1 v fun v =>
    match v with
    | .agg cs => fL1 cs fun cs => k (.agg cs)
    | .fn f cs => fL1 cs fun cs => k (.fn f cs)
    | .iface t v => fV1 v fun v => k (.iface t v)
    | v => k v

def fL2 : List PV → (List PV → α) → α
  | [], k => k []
  | x :: xs, k => fV2 x fun x => fL2 xs fun xs => k (x :: xs)

def fV (v : PV) (k : PV → α) : α :=
  fV2 v fun v =>
    match v with
    | .tuple vs => fL2 vs fun vs => k (.tuple vs)
    | v => k v

def fL : List PV → (List PV → α) → α
  | [], k => k []
  | x :: xs, k => fV x fun x => fL xs fun xs => k (x :: xs)

def fBlk (b : Blk) (k : Blk → α) : α :=
  match b with
  | .dead => k .dead
  | .res => k .res
  | .arr t es l => fB l fun l => k (.arr t es l)
  | .box t cs => fL2 cs fun cs => k (.box t cs)

def fH : Heap → (Heap → α) → α
  | [], k => k []
  | x :: xs, k => fBlk x fun x => fH xs fun xs => k (x :: xs)

def fNs : List Nat → (List Nat → α) → α
  | [], k => k []
  | x :: xs, k => fN x fun x => fNs xs fun xs => k (x :: xs)

/-- one place set, the list laid out -/
def fSet : List PV → Nat → PV → (List PV → α) → α
  | [], _, _, k => k []
  | _ :: xs, 0, v, k => k (v :: xs)
  | x :: xs, n + 1, v, k => fSet xs n v fun xs => k (x :: xs)

def fPut (ts : List PV) (d : Option Tmp) (v : PV) (k : List PV → α) : α :=
  match d with
  | some d => fSet ts d v k
  | none => k ts

@[simp] theorem fN_eq (n : Nat) (k : Nat → α) : fN n k = k n := by cases n <;> rfl
@[simp] theorem fB_eq (b : Bool) (k : Bool → α) : fB b k = k b := by cases b <;> rfl
@[simp] theorem fV1_eq (v : PV) (k : PV → α) : fV1 v k = k v := by cases v <;> simp [fV1]
@[simp] theorem fL1_eq : ∀ (l : List PV) (k : List PV → α), fL1 l k = k l
  | [], k => rfl
  | x :: xs, k => by simp [fL1, fL1_eq xs]
@[simp] theorem fV2_eq (v : PV) (k : PV → α) : fV2 v k = k v := by cases v <;> simp [fV2]
@[simp] theorem fL2_eq : ∀ (l : List PV) (k : List PV → α), fL2 l k = k l
  | [], k => rfl
  | x :: xs, k => by simp [fL2, fL2_eq xs]
@[simp] theorem fV_eq (v : PV) (k : PV → α) : fV v k = k v := by cases v <;> simp [fV]
@[simp] theorem fL_eq : ∀ (l : List PV) (k : List PV → α), fL l k = k l
  | [], k => rfl
  | x :: xs, k => by simp [fL, fL_eq xs]
@[simp] theorem fBlk_eq (b : Blk) (k : Blk → α) : fBlk b k = k b := by cases b <;> simp [fBlk]
@[simp] theorem fH_eq : ∀ (h : Heap) (k : Heap → α), fH h k = k h
  | [], k => rfl
  | x :: xs, k => by simp [fH, fH_eq xs]
@[simp] theorem fNs_eq : ∀ (l : List Nat) (k : List Nat → α), fNs l k = k l
  | [], k => rfl
  | x :: xs, k => by simp [fNs, fNs_eq xs]
@[simp] theorem fSet_eq : ∀ (l : List PV) (n : Nat) (v : PV) (k : List PV → α), fSet l n v k = k (l.set n v)
  | [], _, _, k => rfl
  | _ :: _, 0, _, k => rfl
  | x :: xs, n + 1, v, k => by simp [fSet, fSet_eq xs]
@[simp] theorem fPut_eq (ts : List PV) (d : Option Tmp) (v : PV) (k : List PV → α) : fPut ts d v k = k (put ts d v) := by
  cases d <;> simp [fPut, put]
end

section
variable {R : Type} (B : Bool → Option R → Option R → Option R) (P : Program) (CK : CallK R) (M : FuncId → Bool)

def runOpsF (ops : Array Oper) : List Oper → List PV → Heap → (List PV → Heap → Option R) → Option R
  | [], ts, h, k => k ts h
  | o :: rest, ts, h, k =>
    let go (ts : List PV) : Option R := doOpK B P CK M none ts h o.op fun r => fV r.1.1 fun v => fH r.1.2 fun h => fPut ts o.dst v fun ts => runOpsF ops rest ts h k
    match o.guard with
    | none => go ts
    | some (j, want) =>
      match (ops[j]?).bind (·.dst) with
      | none => none
      | some d =>
        match ts.getD d .top with
        | .bool b =>
          B b
            (if want then fSet ts d (.bool true) go else fSet ts d (.bool true) fun ts => fPut ts o.dst (.tuple []) fun ts => runOpsF ops rest ts h k)
            (if want then fSet ts d (.bool false) fun ts => fPut ts o.dst (.tuple []) fun ts => runOpsF ops rest ts h k else fSet ts d (.bool false) go)
        | .tuple [] => fPut ts o.dst (.tuple []) fun ts => runOpsF ops rest ts h k
        | _ => none

theorem runOpsF_eq (ops : Array Oper) : ∀ (l : List Oper) (ts : List PV) (h : Heap) (k : List PV → Heap → Option R), runOpsF B P CK M ops l ts h k = runOpsK B P CK M ops l ts h k
  | [], ts, h, k => rfl
  | o :: rest, ts, h, k => by
    have ih := fun ts h k => runOpsF_eq ops rest ts h k
    unfold runOpsF runOpsK
    simp only [fV_eq, fH_eq, fPut_eq, fSet_eq, ih]
    all_goals rfl

def fFoot {α : Type} (F : Foot) (k : Foot → α) : α := fNs F.1 fun a => fNs F.2 fun b => k (a, b)

@[simp] theorem fFoot_eq {α : Type} (F : Foot) (k : Foot → α) : fFoot F k = k F := by simp [fFoot]

def runDrawF (ops : Array Oper) : List Oper → Nat → List Foot → List PV → Heap → (List PV → Heap → Option R) → Option R
  | [], _, F, ts, h, k => if dynOK ops F then k ts h else none
  | o :: rest, s, F, ts, h, k =>
    let go (ts : List PV) : Option R :=
      if alFree h (slotAt o s) then
        doOpK B P CK M (slotAt o s) ts h o.op fun r => fV r.1.1 fun v => fH r.1.2 fun h' => fPut ts o.dst v fun ts => fFoot (slotIds (slotAt o s) 1 ++ r.2.1, r.2.2) fun F1 => fN (s + slotsOf o.op) fun s' => runDrawF ops rest s' (F ++ [F1]) ts h' k
      else none
    match o.guard with
    | none => go ts
    | some (j, want) =>
      match (ops[j]?).bind (·.dst) with
      | none => none
      | some d =>
        match ts.getD d .top with
        | .bool b =>
          B b
            (if want then fSet ts d (.bool true) go else fSet ts d (.bool true) fun ts => fPut ts o.dst (.tuple []) fun ts => runDrawF ops rest (s + slotsOf o.op) (F ++ [([], [])]) ts h k)
            (if want then fSet ts d (.bool false) fun ts => fPut ts o.dst (.tuple []) fun ts => runDrawF ops rest (s + slotsOf o.op) (F ++ [([], [])]) ts h k else fSet ts d (.bool false) go)
        | .tuple [] => fPut ts o.dst (.tuple []) fun ts => runDrawF ops rest (s + slotsOf o.op) (F ++ [([], [])]) ts h k
        | _ => none

theorem runDrawF_eq (ops : Array Oper) : ∀ (l : List Oper) (s : Nat) (F : List Foot) (ts : List PV) (h : Heap) (k : List PV → Heap → Option R), runDrawF B P CK M ops l s F ts h k = runDrawK B P CK M ops l s F ts h k
  | [], s, F, ts, h, k => rfl
  | o :: rest, s, F, ts, h, k => by
    have ih := fun s F ts h k => runDrawF_eq ops rest s F ts h k
    unfold runDrawF runDrawK
    simp only [fV_eq, fH_eq, fPut_eq, fSet_eq, fFoot_eq, fN_eq, ih]
    all_goals rfl

def runF (LS : Nat → Option (Smy R)) (n kk : Nat) (live : Nat → Option (List Nat)) : Code → List PV → Heap → (Ex → List PV → Heap → Option R) → Option R
  | .skip, ts, h, k => k .normal ts h
  | .label _, ts, h, k => k .normal ts h
  | .region _ ops d, ts, h, k => if d = true then (if staticOK ops then fL ts fun ts => fH (reserve ops h) fun h' => fN h.length fun s => runDrawF B P CK M ops ops.toList s [] ts h' (k .normal) else none) else fL ts fun ts => fH h fun h => runOpsF B P CK M ops ops.toList ts h (k .normal)
  | .seq a b, ts, h, k => runF LS n kk live a ts h fun e ts' h' =>
    match e with
    | .normal => runF LS n kk live b ts' h' k
    | .exit i => k (.exit i) ts' h'
    | .ret => k .ret ts' h'
  | .cond c a b, ts, h, k =>
    match ev ts c with
    | .bool t => B t (runF LS n kk live a ts h k) (runF LS n kk live b ts h k)
    | _ => none
  | .block id a, ts, h, k => runF LS n kk live a ts h fun e ts' h' =>
    match e with
    | .normal => k .normal ts' h'
    | .exit i => if i = id then k .normal ts' h' else k (.exit i) ts' h'
    | .ret => k .ret ts' h'
  | .loop a, ts, h, k => match LS (rid a) with
    | some g => (cleanX kk live (rid a) .normal ts h).bind fun c => fL c.1 fun ts => fH c.2 fun h => g ts h k
    | none => loopN (runF LS n kk live a) (cleanX kk live (rid a)) n ts h k
  | .scope a, ts, h, k => runF LS n kk live a ts h k
  | .exit i, ts, h, k => k (.exit i) ts h
  | .ret, ts, h, k => k .ret ts h
  | _, _, _, _ => none

theorem runF_eq (LS : Nat → Option (Smy R)) (n kk : Nat) (live : Nat → Option (List Nat)) : ∀ (c : Code) (ts : List PV) (h : Heap) (k : Ex → List PV → Heap → Option R), runF B P CK M LS n kk live c ts h k = runK B P CK M LS n kk live c ts h k := by
  intro c
  induction c with
  | region id ops d => intro ts h k; simp only [runF, runK, fL_eq, fH_eq, fN_eq, runOpsF_eq, runDrawF_eq]
  | seq a b iha ihb =>
    intro ts h k
    simp only [runF, runK, iha]
    congr 1; funext e ts' h'
    cases e <;> simp only [ihb]
  | cond c a b iha ihb => intro ts h k; simp only [runF, runK, iha, ihb] <;> rfl
  | block id a ih => intro ts h k; simp only [runF, runK, ih] <;> rfl
  | loop a ih =>
    intro ts h k
    simp only [runF, runK]
    have : runF B P CK M LS n kk live a = runK B P CK M LS n kk live a := by funext ts h k; exact ih ts h k
    rw [this]
    simp only [fL_eq, fH_eq]
    all_goals rfl
  | scope a ih => intro ts h k; simp only [runF, runK, ih]
  | _ => intros <;> rfl
end

def callF {R : Type} (B : Bool → Option R → Option R → Option R) (P : Program) (X : Ext) (M : FuncId → Bool) (L : FuncId → Nat → Option (List Nat)) (LS : FuncId → Nat → Nat → Option (Smy R)) : Nat → CallK R
  | 0, _, _, _, _ => none
  | n + 1, f, xs, hc, k =>
    fL xs fun xs => fH hc fun hc =>
    match X f with
    | some g => (g xs hc).go B k
    | none =>
    match P.funcs[f]? with
    | none => none
    | some fn =>
      match fn.body with
      | none => none
      | some body =>
        runF B P (callF B P X M L LS n) M (LS f hc.length) n hc.length (L f) body (xs ++ List.replicate (fn.ntmps - xs.length) .top) hc fun e ts h =>
          match e with
          | .exit _ => none
          | _ => fL ts fun ts => fH h fun h => (finish P fn hc.length ts h).bind fun r => fV r.1 fun v => fH r.2 fun h' => k (v, h')

theorem callF_eq {R : Type} (B : Bool → Option R → Option R → Option R) (P : Program) (X : Ext) (M : FuncId → Bool) (L : FuncId → Nat → Option (List Nat)) (LS : FuncId → Nat → Nat → Option (Smy R)) : ∀ n, callF B P X M L LS n = callK B P X M L LS n
  | 0 => by funext f xs hc k <;> rfl
  | n + 1 => by
    funext f xs hc k
    have ih := callF_eq B P X M L LS n
    simp only [callF, callK, fL_eq, fH_eq, fV_eq, runF_eq, ih]
    all_goals rfl

end Go.Pu
end
