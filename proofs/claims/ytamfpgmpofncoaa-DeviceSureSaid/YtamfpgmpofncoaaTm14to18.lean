import Derived.Test.YtamfpgmpofncoaaTm8to13
import Derived.Test.YtamfpgmpofncoaaAb27toP
open List renaming replicate → kA, length → kE, mem_append → kG, mem_of_getElem? → kH, map_cons → kI, mem_map → kJ, mem_singleton → kK, getElem?_eq_some_iff → kM, mem_or_eq_of_mem_set → kN, mem_of_mem_take → kU, all_eq_true → kV, eq_of_mem_replicate → kW, getElem?_set_self → k0, length_replicate → k8, mem_append_left → k9, mem_cons → ka, replicate_succ → kb, getElem?_append_left → ke, length_append → kg, length_take → ko, mem_append_right → kq, getElem?_set_ne → kr, mem_of_mem_drop → kt, getElem?_map → kv, length_cons → kw, length_map → ky, map_set → lB
open Nat renaming eq_of_beq_eq_true → kB, beq → kC, le_of_ble_eq_true → kL, le_refl → kO, mul_le_mul_right → kP, zero_add → kQ, ble → kR, zero_mul → kY, add_mul → ku, min_le_left → kz, blt → lA, le_trans → lC, blt_eq → lD, not_lt → lE
open Bool renaming and_eq_true → kD, false_eq_true → kZ, not_eq_true' → kj
open Option renaming bind_eq_some_iff → kF, map_some → kS, getD_some → kx
open Array renaming getElem?_eq_some_iff → kT, getElem?_eq_getElem → kc, size_modify → ki
open Go.Sem renaming run_bind → kh
open Go.Result renaming andThen_ok → km
set_option linter.unusedSimpArgs false
set_option linter.unusedVariables false
namespace Go.Tm
open Go.Ab
def z1g (P : Program) (o : Oper) (σ : TS) (N : TS -> Prop) : Prop :=
 ∀ c a w (K : Act -> World -> Prop) Q, RelT w c σ a ->
  (∀ c' a' w' σ', N σ' -> σ'.wf -> RelT w' c' σ' a' -> ExtP σ.p w c w' c' -> a'.defers = a.defers -> K a' w') -> o.wp P a w K Q
variable {w : World} {c : Cx} {σ : TS} {a : Act} {t : TV}
theorem z1q {v : Value} (d : Option Nat) (h : RelT w c σ a) (hv : VR w c t.pv v) : RelT w c (σ.put d t) (a.put d v) := by
 refine ⟨by cases d <;> exact h.1, ?_⟩
 rw [z0x];refine ⟨?_, h.2.2.put d hv⟩;have := h.2.1;cases d <;> simpa [AS.put] using this
theorem jL (σ : TS) (d : Option Nat) (p : TV) : (σ.put d p).H = σ.H /\ (σ.put d p).n = σ.n /\ (σ.put d p).p = σ.p := by cases d <;> exact ⟨rfl, rfl, rfl⟩
variable {P : Program} {o : Oper}
theorem zow {q : TV} {N : TS -> Prop} (hw : σ.wf) (h : TQ P o σ q) (hN : N (σ.put o.dst q)) : z1g P o σ N := by
 intro c a w K Q hr hK;refine h.2 σ.flat.H (fun _ _ => rfl) c a w K Q hr.2 fun v w' hv hg hx => hK c _ w' _ hN (qe hw _ h.1) ?_ (z84 hr.noT hx) (Act.put_defers' _ _ _)
 exact z1q _ ⟨hr.1, hg, hr.2.2.ext hx⟩ hv
variable {e : TypeId}
theorem NewObj.le {σ : AS} {cs ds : List PV} {pf : Nat -> PV} (h : NewObj P o σ cs e pf) (hc : CLe cs ds) (hl : zd ds) : NewObj P o σ ds e pf := by
 obtain ⟨h1, h2⟩ := h;refine ⟨hl, fun w c a hr => ?_⟩
 rcases h2 w c a hr with ⟨v, d, ⟨vs, fr, k1, k2, k3, k4, k5⟩ | ⟨rfl, k1, k2⟩⟩
 ·exact ⟨v, d, .inl ⟨vs, fr, k1, k2, by rw [<- hc.1]; exact k3, jk ⟨_, _, hr.1⟩ hc k4, k5⟩⟩
 ·exact ⟨v, d, .inr ⟨List.eq_nil_of_length_eq_zero hc.1.symm, k1, k2⟩⟩
def zga : Operand -> Operand -> Bool
 | .tmp a, .tmp b => kC a b
 | .const (.int k n), .const (.int k' m) => vK k k' && decide (n = m)
 | _, _ => false
theorem zqj {x y : Operand} (h : zga x y = true) : x = y := by
 unfold zga at h;split at h
 ·rw [kB h]
 ·simp only [kD, decide_eq_true_eq] at h;rw [vh h.1, h.2]
 ·cases h
variable {R : Type}
def zji (n : Int) (nb : Nat) (k : Option R) : Option R := bif leI 0 n && leI (nb * n) 281474976710656 then k else none
def zob (P : Program) (s : TypeId) : Bool :=
 match P.underlying s with
 | some .string => true
 | _ => false
def z9h : TV -> Bool
 | .nil => true
 | .fsl _ [] => true
 | _ => false
theorem zq4 (h : z9h t = true) : t.pv = .tr 0 [] .full := by
 unfold z9h at h;split at h
 ·rfl
 ·rfl
 ·cases h
theorem zmh (h : z9h t = true) : t ≠ .dead := fun e => by subst e; cases h
def z6n (P : Program) (own : List Nat) (i : Nat) (o : Oper) (σ : TS) : Bool :=
 match o.op with
 | .box _ _ => true
 | .alloc _ => true
 | .makeSlice _ _ _ => true
 | .convert s t _ => zob P s && z58 P t
 | .call { callee := .builtin .append, args := xs, argTypes := _ } => z17 own i && (match xs.toList.map σ.eval with
  | [a, _] => z9h a
  | _ => false)
 | .buildSlice _ _ _ => z17 own i
 | _ => false
def zn5 (P : Program) (t : TypeId) (len : Nat) (ps : List (Nat × TV)) (k : TypeId -> (u : U) -> List u.T -> Option R) : Option R :=
 match P.underlying t with
 | some (.slice e) => bif kC len 0 && kC ps.length 0 then (match z06 P vI e, ye P e with
  | some u, some n => bif kC n u.size then k e u [] else none
  | _, _ => none) else
  match z06 P vI e, ye P e, qK P e with
  | some u, some n, some z => bif kC n u.size && !kC n 0 && !kC len 0 && kC z.length n && z.all leaf && kR (len * n) 16777216 && kC ps.length len && z6z ps 0 && ps.all (fun x => x.2.stores)
   then z4o u (ps.map (·.2)) fun l => k e u l else none
  | _, _, _ => none
 | _ => none
theorem zu7 {σ : AS} {t e : TypeId} {len n : Nat} {parts : Array (Nat × Operand)} {z : List PV} {ps : List PV}
  (ho : o.op = .buildSlice t len parts) (ht : P.underlying t = some (.slice e)) (hs : ye P e = some n) (hn : n ≠ 0) (hl0 : len ≠ 0) (hz : qK P e = some z) (hzn : z.length = n) (hzl : zd z)
  (hmax : len * n <= 2 ^ 24) (hlen : ps.length = len) (hps : parts.toList.map (fun x => (x.1, σ.eval x.2)) = (ps.zipIdx 0).map fun x => (x.2, x.1)) (hp : ∀ p, p ∈ ps -> z7r p = true /\ (cellsOf p).length = n) (hlf : zd (ps.flatMap cellsOf)) :
  NewObj P o σ (ps.flatMap cellsOf) e (fun b => .sl b 0 len n) := by
 have hfill : z5j (fun i => some (i * n, n)) (kA len z).flatten ((ps.zipIdx 0).map fun x => (x.2, x.1)) (ps.flatMap cellsOf) := by
  have := zer ps 0 [] (kA len z).flatten (by simp) (by simp [hzn, hlen]) hp
  simpa using this
 have hcl : (ps.flatMap cellsOf).length = len * n := by
  rw [<- hlen];clear hfill hlf hps hlen hmax hl0
  induction ps with
  | nil => simp
  | cons p ps ih => simp only [List.flatMap_cons, kg, kw, (hp p (by simp)).2, ih fun q hq => hp q (by simp [hq]), ku, Nat.one_mul]; omega
 refine ⟨hlf, fun w c a hr => ?_⟩
 have hvals : (parts.map fun (x : Nat × Operand) => (x.1, a.eval x.2)).toList.length = ((ps.zipIdx 0).map fun x => (x.2, x.1)).length := by rw [<- hps]; simp
 have hrel : ∀ (k i : Nat) (p : PV), ((ps.zipIdx 0).map fun x => (x.2, x.1))[k]? = some (i, p) -> ∃ v, (parts.map fun (x : Nat × Operand) => (x.1, a.eval x.2)).toList[k]? = some (i, v) /\ VR w c p v := by
  intro k i p hp;rw [<- hps, kv] at hp;cases hx : parts.toList[k]? with
  | none => rw [hx] at hp; cases hp
  | some x =>
   rw [hx] at hp;simp at hp;obtain ⟨rfl, rfl⟩ := hp;exact ⟨a.eval x.2, by rw [Array.toList_map, kv, hx]; rfl, hr.2.eval x.2⟩
 obtain ⟨vs, h1, h2, h3, h4⟩ := z9y ht hs hn hl0 hz hzn hzl rfl hmax hfill hvals hrel;have hvs : vs.size = len * n := by rw [h2, hcl]
 refine ⟨.slice (some ⟨w.heap.size, 0, none⟩) len len, w.drawn, .inl ⟨vs, (0, 0), ?_, z18 _, Nat.le_of_eq h2.symm, h4, fun w' c' b hb hm => ?_⟩⟩
 ·have h1' : (Instr.buildSlice t len (parts.map fun (x : Nat × Operand) => (x.1, a.eval x.2))).run P w =
    .ok (.slice (some ⟨w.heap.size, 0, none⟩) len len) (grow w (.cells vs e (0, 0))) := by have h1' := h1; rwa [Array.toArray_toList] at h1'
  simp only [execOp, ho, kh, h1', km];rfl
 ·simp only [VR];exact .inr ⟨w.heap.size, len, 0, hm, rfl, .inr rfl, kO _, vs, e, (0, 0), hb, by rw [hvs]; omega⟩
variable {n : Nat}
theorem zsg {σ : AS} {t e : TypeId} {parts : Array (Nat × Operand)} (ho : o.op = .buildSlice t 0 parts) (hp : parts.toList.length = 0) (ht : P.underlying t = some (.slice e)) (hs : ye P e = some n) :
  NewObj P o σ [] e (fun b => .sl b 0 0 n) := by
 have hpe : parts = #[] := by
  apply Array.ext' ; exact List.eq_nil_of_length_eq_zero hp
 subst hpe;refine ⟨(fun p hp => by cases hp), fun w c a hr => ?_⟩
 have h1 : (Instr.buildSlice t 0 #[]).run P w = .ok (.slice (some ⟨w.heap.size, 0, none⟩) 0 0) (grow w (.cells #[] e (0, 0))) := by
  unfold Instr.buildSlice;simp only [kh, Ab.run_underlying ht, km, Ab.run_sizeOf hs];rw [if_neg (by omega)]
  have e3 : (Array.range 0).map (fun x => (#[] : Array Value)[x % (#[] : Array Value).size]!) = #[] := by simp
  simp only [kY, if_true, Sem.run_pure, kh, km];rw [e3];simp only [Instr.fill, kh, newRow, run_newObj, km, Sem.run_pure];rfl
 refine ⟨.slice (some ⟨w.heap.size, 0, none⟩) 0 0, w.drawn, .inl ⟨#[], (0, 0), ?_, z18 _, Nat.zero_le _, (by simp only [VRs]), fun w' c' b hb hm => ?_⟩⟩
 ·have e2 : (#[] : Array (Nat × Operand)).map (fun x => (x.1, a.eval x.2)) = #[] := by simp
  simp only [execOp, ho, kh];rw [show (Array.map (fun (x : Nat × Operand) => (x.1, a.eval x.2)) #[]) = #[] from e2, h1]
  rfl
 ·simp only [VR];exact .inl ⟨⟨_, rfl⟩, trivial⟩
def zoi (P : Program) (o : Oper) (σ : TS) (k : (Nat -> TV) -> TypeId -> Ob -> Option R) : Option R :=
 match o.op with
 | .box t x => bif (σ.eval x).stores then k (fun b => .ptr b (.one (σ.eval x).lay) []) t (.var (σ.eval x)) else none
 | .alloc t => match zjl P t with
  | some z => k (fun b => .ptr b (.one z.lay) []) t (.var z)
  | none => none
 | .makeSlice t x y => match P.underlying t with
  | some (.slice e) => match z06 P vI e, qK P e, (P.info? e).map (·.bytes), σ.eval x with
   | some u, some z, some nb, .v (.int .i64) n => bif zga x y && yd P e u && !kC nb 0 && !kC u.size 0 && kC z.length u.size && u.solid && z1o z (zc u (qk u)) && z.all leaf then
     zji n nb (k (fun b => .os b (.row u.canon) [] u 0 n.toNat) e (.row u (kA n.toNat (qk u)))) else none
   | _, _, _, _ => none
  | _ => none
 | .convert _ t x => match P.underlying t, σ.eval x with
  | some (.slice e), .v .str s => k (fun b => .os b (.row (U.int .u8).canon) [] (.int .u8) 0 (kE s)) e (.row (.int .u8) s)
  | _, _ => none
 | .call { callee := .builtin .append, args := xs, argTypes := ts } => match xs.toList.map σ.eval, ts.toList with
  | [a, b], [t, t2] => bif z9h a then (match P.underlying t with
   | some (.slice e) => match z06 P vI e with
    | some u => z2m P σ.H t t2 u [] b fun m => k (fun b => .os b (.row u.canon) [] u 0 m.length) e (.row u m)
    | none => none
   | _ => none) else none
  | _, _ => none
 | .buildSlice t len parts => zn5 P t len (parts.toList.map fun x => (x.1, σ.eval x.2)) fun e u l => k (fun b => .os b (.row u.canon) [] u 0 (kE l)) e (.row u l)
 | _ => none
def zdj (P : Program) (o : Oper) : Bool :=
 match o.op with
 | .convert s t _ => zob P s && z58 P t
 | _ => true
structure NewOK (P : Program) (o : Oper) (σ : TS) (pf : Nat -> TV) (e : TypeId) (ob : Ob) : Prop where
 wf : ob.wf
 pwf : ∀ b, (pf b).wf
 new : ∀ Y : List AObj, (∀ b, b ∈ xf o σ -> Y[b]? = σ.flat.H[b]?) -> NewObj P o { σ.flat with H := Y } ob.cells e (fun b => (pf b).pv)
theorem zaz (u : U) (x : u.T) : ∀ n, zj u (kA n x) = (kA n (zc u x)).flatten
 | 0 => rfl
 | n + 1 => by
  have := zaz u x n;simp only [kb, zj, List.flatMap_cons, List.flatten_cons] at this ⊢;rw [this]
theorem z4s {a b : List PV} (h : CLe a b) : ∀ n, CLe (kA n a).flatten (kA n b).flatten
 | 0 => CLe.refl _
 | n + 1 => by
  simp only [kb, List.flatten_cons];exact h.append (z4s h n)
theorem zl6 {k : (Nat -> TV) -> TypeId -> Ob -> Option R} {r : R} (hw : σ.wf) (hs : zdj P o = true) (h : zoi P o σ k = some r) : ∃ pf e ob, k pf e ob = some r /\ NewOK P o σ pf e ob := by
 unfold zoi at h;split at h
 ·rename_i t x ho;cases hs : (σ.eval x).stores with
  | false => rw [hs] at h; cases h
  | true =>
   rw [hs] at h;have hwx := zu hw x;have ex : σ.flat.eval x = (σ.eval x).pv := by
    rcases vR σ x with e | e
    ·exact e
    ·rw [e] at hs; cases hs
   refine ⟨_, _, _, h, ⟨hwx, hs⟩, fun b => by simp only [TV.wf], fun Y _ => ?_⟩
   simp only [TV.pv, Rt.off, U.off];exact zu6 (σ := { σ.flat with H := Y }) ho ex (z6s hwx hs) (xh hwx hs)
 ·rename_i t ho;split at h
  ·rename_i z hz;obtain ⟨z1, z2, zp, z3, z4, z5⟩ := zbb hz;refine ⟨_, _, _, h, ⟨z1, z2⟩, fun b => by simp only [TV.wf], fun Y _ => ?_⟩
   simp only [TV.pv, Rt.off, U.off];exact zqd (σ := { σ.flat with H := Y }) ho z3 z5.1 (xh z1 z2) fun w c f hg hv => jk hg z5 hv
  ·cases h
 ·rename_i t x y ho;split at h
  ·rename_i e hu;split at h
   ·rename_i u z nb n hcu hz hnb hx;cases hc : zga x y && yd P e u && !kC nb 0 && !kC u.size 0 && kC z.length u.size && u.solid && z1o z (zc u (qk u)) && z.all leaf with
    | false => rw [hc] at h; cases h
    | true =>
     rw [hc] at h;simp only [kD, kj] at hc;obtain ⟨⟨⟨⟨⟨⟨⟨c1, c2⟩, c3⟩, c4⟩, c5⟩, c6⟩, c7⟩, c8⟩ := hc;have e1 := zqj c1;subst e1;simp only [cond_true, zji] at h;cases hg : leI 0 n && leI (nb * n) 281474976710656 with
     | false => rw [hg] at h; cases h
     | true =>
      rw [hg] at h;simp only [kD, decide_eq_true_eq] at hg;have hwn := zu hw x;rw [hx] at hwn;simp only [TV.wf, wfU] at hwn;have hzw := z4r u c6;have hwr : ∀ y, y ∈ kA n.toNat (qk u) -> wfU u y := fun y hy => by rw [kW hy]; exact hzw
      have ex : σ.flat.eval x = .val (.int .i64 n) := zb hx (by simp)
      refine ⟨_, _, _, h, hwr, fun b => by simp only [TV.wf], fun Y _ => ?_⟩
      have hel : ElemT P e u.size nb := ⟨(xB c2).2, hnb, fun e0 => by rw [e0] at c3; simp at c3, z, hz, kB c5⟩
      have := zsh (P := P) (σ := { σ.flat with H := Y }) (x := x) (y := x) ho hu hel hz (kB c5) (fun p hp => kV.1 c8 p hp) (fun e => by rw [e] at c4; simp at c4) ex ex hg.1 (by omega) hwn.2
      simp only [TV.pv, Rt.off, kY, kQ];refine NewObj.le this ?_ (yQ hwr);simp only [Ob.cells];rw [zaz];exact z4s (z3t c7) _
   ·cases h
  ·cases h
 ·rename_i s t x ho;split at h
  ·rename_i e s' hu hx;have hwx := zu hw x;rw [hx] at hwx;simp only [TV.wf, wfU] at hwx;have ex : σ.flat.eval x = .val (.string (ba s')) := by rw [zb hx (by simp)]; rfl
   unfold zdj at hs;rw [ho] at hs;simp only [kD] at hs;obtain ⟨hs1, hs2⟩ := hs;obtain ⟨e', h1, h2⟩ := z8z hs2;rw [hu] at h1;cases h1;have hstr : P.underlying s = some .string := by
    unfold zob at hs1;split at hs1
    ·assumption
    ·cases hs1
   refine ⟨_, _, _, h, zk3 hwx, fun b => by simp only [TV.wf], fun Y _ => ?_⟩
   have := zqe (P := P) (σ := { σ.flat with H := Y }) ho hstr hu h2 ex;rw [ziq hwx] at this;simp only [TV.pv, Rt.off, kY, kQ, U.size, z2y, Ob.cells] at this ⊢;exact this
  ·cases h
 ·rename_i xs ts ho;generalize hm : xs.toList.map σ.eval = m at h;generalize hts : ts.toList = l at h;split at h
  ·rename_i a0 b t t2;obtain ⟨x, y, rfl, hx, hy⟩ := z7s hm;have e := xN hts; subst e;cases hem : z9h a0 with
   | false => rw [hem] at h; cases h
   | true =>
   rw [hem] at h;simp only [cond_true] at h;split at h
   ·rename_i e hu;split at h
    ·rename_i u _;rw [<- hy] at h;obtain ⟨m', e', nb, h1, h2⟩ := z5k hw h;have hu' := h2.ty;rw [hu] at hu';cases hu';refine ⟨_, _, _, h1, h2.wf, fun b => by simp only [TV.wf], fun Y hY => ?_⟩
     have := zoj (P := P) (σ := { σ.flat with H := Y }) ho hu h2.el h2.src (by rw [show AS.eval { σ.flat with H := Y } x = σ.flat.eval x from rfl, zb hx (zmh hem)]; exact zq4 hem) (h2.srcN Y fun b hb => hY b (by simp [xf, ho, hb])).ok (by have := h2.le; simpa using this)
     simp only [TV.pv, Rt.off, kY, kQ, Ob.cells];exact this
    ·cases h
   ·cases h
  ·cases h
 ·rename_i t len parts ho;have hpw : ∀ p, p ∈ (parts.toList.map fun x => (x.1, σ.eval x.2)) -> p.2.wf := fun p hp => by
   simp only [kJ] at hp;obtain ⟨x, _, rfl⟩ := hp;exact zu hw x.2
  unfold zn5 at h;split at h
  ·rename_i e hu;cases h0 : kC len 0 && kC (parts.toList.map fun x => (x.1, σ.eval x.2)).length 0 with
   | true =>
    rw [h0] at h;simp only [kD, ky] at h0;have e0 := kB h0.1;have e1 := kB h0.2;subst e0;simp only [cond_true] at h;split at h
    ·rename_i u n hcode hn;cases hc : kC n u.size with
     | false => rw [hc] at h; cases h
     | true =>
      rw [hc] at h;have e2 := kB hc;refine ⟨_, _, _, h, (fun x hx => by cases hx), fun b => by simp only [TV.wf], fun Y _ => ?_⟩
      simp only [TV.pv, Rt.off, kY, kQ, Ob.cells, List.length_nil];rw [<- e2];exact zsg (σ := { σ.flat with H := Y }) ho e1 hu hn
    ·cases h
   | false =>
   rw [h0] at h;simp only [cond_false] at h;split at h
   ·rename_i u n z hcode hn hz;generalize hps : (parts.toList.map fun x => (x.1, σ.eval x.2)) = ps at h hpw
    cases hc : kC n u.size && !kC n 0 && !kC len 0 && kC z.length n && z.all leaf && kR (len * n) 16777216 && kC ps.length len && z6z ps 0 && ps.all (fun x => x.2.stores) with
    | false => rw [hc] at h; cases h
    | true =>
     rw [hc] at h;simp only [kD, kj] at hc;obtain ⟨⟨⟨⟨⟨⟨⟨⟨c1, c2⟩, c3⟩, c4⟩, c5⟩, c6⟩, c7⟩, c8⟩, c9⟩ := hc;have e1 := kB c1;have e7 := kB c7;have n0 : n ≠ 0 := fun e => by rw [e] at c2; cases c2
     have l0 : len ≠ 0 := fun e => by rw [e] at c3; cases c3
     obtain ⟨l, q1, q2, q3, q4, q5⟩ := z7k (fun s hs => by
      simp only [kJ] at hs;obtain ⟨x, hx, rfl⟩ := hs;exact hpw x hx) h
     simp only [ky] at q2;refine ⟨_, _, _, q1, q3, fun b => by simp only [TV.wf], fun Y _ => ?_⟩
     have hst : ∀ p, p ∈ ps.map (fun x => x.2.pv) -> z7r p = true /\ (cellsOf p).length = n := fun p hp => by
      simp only [kJ] at hp;obtain ⟨x, hx, rfl⟩ := hp;exact ⟨z6s (hpw x hx) (kV.1 c9 x hx), by rw [e1]; exact q5 x.2 (kJ.2 ⟨x, hx, rfl⟩)⟩
     have e2 : (ps.map fun x => x.2.pv).flatMap cellsOf = (ps.map (·.2)).flatMap TV.cells := by simp [List.flatMap_map, TV.cells]
     have hlf : zd ((ps.map fun x => x.2.pv).flatMap cellsOf) := fun p hp => by
      rw [List.mem_flatMap] at hp;obtain ⟨y, hy, hp⟩ := hp;simp only [kJ] at hy;obtain ⟨x, hx, rfl⟩ := hy;exact xh (hpw x hx) (kV.1 c9 x hx) p hp
     have hq := zu7 (σ := { σ.flat with H := Y }) (ps := ps.map fun x => x.2.pv) ho hu hn n0 l0 hz (kB c4) (fun p hp => kV.1 c5 p hp) (by have := kL c6; omega) (by simpa using e7)
      (by rw [show (parts.toList.map fun x => (x.1, AS.eval { σ.flat with H := Y } x.2)) = parts.toList.map fun x => (x.1, σ.flat.eval x.2) from rfl, z7h (by rw [hps]; exact c9), hps]; exact z8p c8) hst hlf
     rw [e2] at hq;have hq2 := NewObj.le hq q4 (yQ q3);simp only [TV.pv, Rt.off, kY, kQ, Ob.cells];rw [q2, e7, <- e1];exact hq2
   ·cases h
  ·cases h
 ·cases h
theorem zsi {pf : Nat -> TV} {ob : Ob} {N : TS -> Prop} (hw : σ.wf) (h : NewOK P o σ pf e ob) (hN : N { σ.put o.dst (pf σ.H.length) with H := σ.H ++ [.ob e ob] }) : z1g P o σ N := by
 intro c a w K Q hr hK;have h1 := h.new σ.flat.H (fun _ _ => rfl)
 have hstep := zt7 (N := fun τ => τ = { σ.flat.put o.dst (pf σ.H.length).pv with H := σ.flat.H ++ [.row ob.cells e] }) h1 (by simp [TS.flat])
 refine hstep c a w K Q hr.2 fun c' a' w' τ hτ hr' hx hd => ?_
 subst hτ;refine hK c' a' w' _ hN ⟨fun x hx' => ?_, fun q hq => ?_⟩ ⟨?_, ?_⟩ (z84 hr.noT hx) hd
 ·have := (qe hw o.dst (h.pwf σ.H.length)).slots;exact this x hx'
 ·rcases kG.1 hq with hq | hq
  ·exact hw.H q hq
  ·simp only [kK] at hq; subst hq; exact h.wf
 ·show c'.pn = (σ.put o.dst (pf σ.H.length)).p;rw [hx.pn, hr.1, (jL _ _ _).2.2]
 ·have e1 : TS.flat { σ.put o.dst (pf σ.H.length) with H := σ.H ++ [.ob e ob] } = { σ.flat.put o.dst (pf σ.H.length).pv with H := σ.flat.H ++ [.row ob.cells e] } := by
   cases o.dst <;> simp [TS.flat, TS.put, AS.put, TOb.flat]
  rw [e1]; exact hr'
def zgr (P : Program) (o : Oper) (σ : TS) (t : TypeId) (x y : Operand) (k : Nat -> TypeId -> Ob -> Option R) : Option R :=
 match ye P t, σ.eval x with
 | some n, .ptr b r p =>
  match σ.H[b]? with
  | some (.ob e ob) => bif r.beq ob.lay && (σ.eval y).stores && kC n (σ.eval y).lay.size then zd5 ob p (σ.eval y) fun ob' => k b e ob' else none
  | _ => none
 | _, _ => none
variable {b : Nat}
theorem Good.setLe {H : List AObj} {ts : List Bool} (g : Ab.Good w c H ts) {cs ds : List PV} {e : Knd} (hb : H[b]? = some (.row cs e)) (hc : CLe cs ds) (hl : zd ds) : Ab.Good w c (H.set b (.row ds e)) ts :=
 {g with
  len := by rw [g.len]; simp
  obj := fun i o h => by
   by_cases hi : b = i
   ·subst hi;rw [k0 (kM.1 hb).1] at h;cases h;exact (g.obj b _ hb).to id (fun k hk => ⟨hk, rfl⟩) hc.1.symm hl fun fv => jk ⟨_, _, g⟩ hc
   ·rw [kr hi] at h;exact g.obj i o h }
theorem StoreStep.le {σ : AS} {cs ds : List PV} (h : StoreStep P o σ b cs e) (hc : CLe cs ds) (hl : zd ds) (hb : b < σ.H.length) : StoreStep P o σ b ds e := by
 intro c a w K Q hr hK;refine h c a w K Q hr fun w' hg hx => hK w' ?_ hx
 have := Good.setLe hg (k0 hb) hc hl;rw [List.set_set] at this;exact this
theorem zi5 {H : List TOb} (hw : ∀ o, o ∈ H -> o.wf) : ∀ x, x ∈ H.map TOb.flat -> OLe x x := fun x hx => by
 simp only [kJ] at hx;obtain ⟨q, hq, rfl⟩ := hx;cases q with
 | gone => rfl
 | ob e o => exact ⟨rfl, CLe.refl _, zsl (hw _ hq)⟩
structure StoreOK (P : Program) (o : Oper) (σ : TS) (b : Nat) (e : TypeId) (ob' : Ob) : Prop where
 wf : ob'.wf
 lt : b < σ.H.length
 ob : ∃ ob, σ.H[b]? = some (.ob e ob)
 step : ∀ Y : List AObj, Y[b]? = σ.flat.H[b]? -> StoreStep P o { σ.flat with H := Y } b ob'.cells e
theorem zgs {t : TypeId} {x y : Operand} {k : Nat -> TypeId -> Ob -> Option R} {r : R} (ho : o.op = .store t x y) (hw : σ.wf) (h : zgr P o σ t x y k = some r) : ∃ b e ob', k b e ob' = some r /\ StoreOK P o σ b e ob' := by
 unfold zgr at h;split at h
 ·rename_i n b rt p hn hx;split at h
  ·rename_i e ob hb;cases hc : rt.beq ob.lay && (σ.eval y).stores && kC n (σ.eval y).lay.size with
   | false => rw [hc] at h; cases h
   | true =>
    rw [hc] at h;simp only [kD] at hc;obtain ⟨⟨c1, c2⟩, c3⟩ := hc;have e1 := Rt.beq_eq c1;subst e1;have e3 := kB c3;have hwy := zu hw y;have hob := hw.H _ (kH hb);obtain ⟨ob', h1, h2⟩ := zim ob p hob hwy h;have ex : σ.flat.eval x = .ptr b (ob.lay.off p) := by rw [zb hx (by simp)]; simp only [TV.pv]
    have ey : σ.flat.eval y = (σ.eval y).pv := by
     rcases vR σ y with e | e
     ·exact e
     ·rw [e] at c2; cases c2
    have hl := xy _ hwy;have hblt : b < σ.H.length := (kM.1 hb).1;refine ⟨b, e, ob', h1, h2.wf, hblt, ⟨ob, hb⟩, fun Y hY => ?_⟩
    have hbY : Y[b]? = some (.row ob.cells e) := hY.trans (z4v hb);refine StoreStep.le (zt8 (σ := { σ.flat with H := Y }) ho hn ex ey (z6s hwy c2) (by rw [e3]; exact hl) hbY (by rw [e3, <- hl]; exact h2.le)) h2.cells h2.leafs (kM.1 hbY).1
  ·cases h
 ·cases h
theorem zb5 (σ : TS) (b : Nat) (e : TypeId) (ob : Ob) : TS.flat { σ with H := σ.H.set b (.ob e ob) } = { σ.flat with H := σ.flat.H.set b (.row ob.cells e) } := by
 simp [TS.flat, TOb.flat, lB]
theorem zgn (hw : σ.wf) (b : Nat) {o : TOb} (ho : o.wf) : TS.wf { σ with H := σ.H.set b o } :=
 ⟨hw.slots, fun q hq => by
  rcases kN hq with hq | hq
  ·exact hw.H q hq
  ·rw [hq]; exact ho⟩
def qC {α : Type} (l : List α) (lo n : Nat) (m : List α) : List α := l.take lo ++ m.take (min m.length n) ++ l.drop (lo + min m.length n)
theorem zk9 {α : Type} {l m : List α} {lo n : Nat} {x : α} (h : x ∈ qC l lo n m) : x ∈ l \/ x ∈ m := by
 simp only [qC, kG] at h;rcases h with (h | h) | h
 ·exact .inl (kU h)
 ·exact .inr (kU h)
 ·exact .inl (kt h)
theorem zry {α : Type} {l m : List α} {lo n : Nat} (h : lo + n <= l.length) : (qC l lo n m).length = l.length := by
 simp only [qC, kg, ko, List.length_drop];omega
variable {u : U}
theorem zka {l m : List u.T} {lo n : Nat} (hl : ∀ x, x ∈ l -> wfU u x) (hm : ∀ x, x ∈ m -> wfU u x) (h : lo + n <= l.length) :
  zj u (qC l lo n m) = splice (zj u l) (lo * u.size) ((zj u m).take (min m.length n * u.size)) := by
 have e3 : (zj u m).take (min m.length n * u.size) = zj u (m.take (min m.length n)) := z3d hm (kz _ _);have e4 : (zj u (m.take (min m.length n))).length = min m.length n * u.size := by
  rw [xS (fun x hx => hm x (kU hx)), ko]
  congr 1; omega
 simp only [qC, z94, splice];rw [e3, e4, <- z3d hl (by omega), <- ku, <- z5f hl (by omega)]
def zlz (o : Ob) (p : List Stp) (u : U) (f : List u.T -> (List u.T -> Option R) -> Option R) (k : Ob -> Option R) : Option R :=
 zak o p fun t => match t with
  | .v (.arr m u') l => xV (.sl u') (.sl u) l fun l0 => f l0 fun l1 => xV (.sl u) (.sl u') l1 fun l2 => zd5 o p (.v (.arr m u') l2) k
  | _ => none
def zgv (o : Ob) (r : Rt) (p : List Stp) (u : U) (f : List u.T -> (List u.T -> Option R) -> Option R) (k : Ob -> Option R) : Option R :=
 bif r.beq o.lay then
  match o, p with
  | .row u' l, [] => xV (.sl u') (.sl u) l fun l0 => f l0 fun l1 => xV (.sl u) (.sl u') l1 fun l2 => k (.row u' l2)
  | o, p => zlz o p u f k
 else none
def znx (P : Program) (σ : TS) (xs : List TV) (ts : List TypeId) (k : Nat -> TypeId -> Ob -> Option R) : Option R :=
 match xs, ts with
 | [.os b r p u lo n, y], [t, t2] => match P.underlying t, σ.H[b]? with
  | some (.slice e), some (.ob el o) => bif yd P e u then zp6 P σ.H t2 u y fun m => zgv o r p u (fun l k => bif kR (z23 lo n) (kE l) then k (qC l lo n m) else none) fun o' => k b el o' else none
  | _, _ => none
 | _, _ => none
structure UpdOK (o : Ob) (off n : Nat) (q : List PV) (o' : Ob) : Prop where
 wf : o'.wf
 cells : CLe (splice o.cells off q) o'.cells
 leafs : zd o'.cells
 le : off + n <= o.cells.length
theorem ztx {o : Ob} {p : List Stp} {lo n : Nat} {m : List u.T} {k : Ob -> Option R} {x : R} (hw : o.wf) (hm : ∀ y, y ∈ m -> wfU u y)
  (h : zlz o p u (fun l k => bif kR (z23 lo n) (kE l) then k (qC l lo n m) else none) k = some x) : ∃ o', k o' = some x /\ UpdOK o (o.lay.off p + lo * u.size) (n * u.size) ((zj u m).take (min m.length n * u.size)) o' := by
 unfold zlz at h;have hq : ((zj u m).take (min m.length n * u.size)).length = min m.length n * u.size := by
  rw [ko, xS hm];have : min m.length n * u.size <= m.length * u.size := kP _ (kz _ _);omega
 have hq2 : min m.length n * u.size <= n * u.size := kP _ (Nat.min_le_right _ _);obtain ⟨t', h1, h2⟩ := z85 _ _ hw h;split at h1
 ·rename_i mm u' l;obtain ⟨e, h1⟩ := yg h1;cases e;have h1 : (bif kR (z23 lo n) (kE l) then xV (.sl u) (.sl u) (qC l lo n m) fun l2 => zd5 o p (.v (.arr mm u) l2) k else none) = some x := h1
  cases hb : kR (z23 lo n) (kE l) with
  | false => rw [hb] at h1; cases h1
  | true =>
   rw [hb] at h1;simp only [cond_true] at h1;obtain ⟨e, h1⟩ := yg h1;cases e;have hle := kL hb;rw [z6i] at hle;obtain ⟨g1, g2, g3⟩ := z6j h2.wf;have hwt := h2.wf;simp only [TV.wf, wfU] at hwt;have hw' : ∀ y, y ∈ qC l lo n m -> wfU u y := fun y hy => (zk9 hy).elim (g1 y) (hm y)
   have hmul : lo * u.size + n * u.size <= l.length * u.size := by rw [<- ku]; exact kP _ hle
   have hnew : (TV.v (.arr mm u) (qC l lo n m)).wf := by
    simp only [TV.wf, wfU];exact ⟨by rw [zry hle]; exact hwt.1, hw'⟩
   obtain ⟨o', k1, k2⟩ := zim _ _ hw hnew h1;have e6 := h2.cells; have e7 := h2.le;rw [g2] at e6 e7;rw [g3] at e7;refine ⟨o', k1, k2.wf, ?_, k2.leafs, by omega⟩
   have hce := k2.cells;rw [vO, zka g1 hm hle] at hce;rw [z0b _ _ _ _ _ (by rw [g3]; omega) (by rw [hq, g3]; omega) (by rw [g3] at e6 ⊢; exact e6)] at hce
   exact hce
 ·cases h1
theorem zm1 {o : Ob} {r : Rt} {p : List Stp} {lo n : Nat} {m : List u.T} {k : Ob -> Option R} {x : R} (hw : o.wf) (hm : ∀ y, y ∈ m -> wfU u y)
  (h : zgv o r p u (fun l k => bif kR (z23 lo n) (kE l) then k (qC l lo n m) else none) k = some x) : ∃ o', k o' = some x /\ UpdOK o (r.off p + lo * u.size) (n * u.size) ((zj u m).take (min m.length n * u.size)) o' := by
 unfold zgv at h;have hq : ((zj u m).take (min m.length n * u.size)).length = min m.length n * u.size := by
  rw [ko, xS hm];have : min m.length n * u.size <= m.length * u.size := kP _ (kz _ _);omega
 have hq2 : min m.length n * u.size <= n * u.size := kP _ (Nat.min_le_right _ _);cases hc : r.beq o.lay with
 | false => rw [hc] at h; cases h
 | true =>
  rw [hc] at h;have e := Rt.beq_eq hc;subst e;simp only [cond_true] at h;split at h
  ·rename_i u' l;obtain ⟨e, h⟩ := yg h;cases e;have h : (bif kR (z23 lo n) (kE l) then xV (.sl u) (.sl u) (qC l lo n m) fun l2 => k (Ob.row u l2) else none) = some x := h
   cases hb : kR (z23 lo n) (kE l) with
   | false => rw [hb] at h; cases h
   | true =>
    rw [hb] at h;simp only [cond_true] at h;obtain ⟨e, h⟩ := yg h;cases e;have hle := kL hb;rw [z6i] at hle;have hwl : ∀ y, y ∈ l -> wfU u y := hw;have hw' : ∀ y, y ∈ qC l lo n m -> wfU u y := fun y hy => (zk9 hy).elim (hwl y) (hm y)
    have hmul : lo * u.size + n * u.size <= l.length * u.size := by rw [<- ku]; exact kP _ hle
    refine ⟨_, h, hw', ?_, yQ hw', ?_⟩
    ·simp only [Ob.cells, Ob.lay, Rt.off, kQ];rw [zka hwl hm hle]; exact CLe.refl _
    ·simp only [Ob.cells, Ob.lay, Rt.off, kQ, xS hwl]; exact hmul
  ·exact ztx hw hm h
structure CopyOK (P : Program) (o : Oper) (σ : TS) (b : Nat) (e : TypeId) (ob' : Ob) : Prop where
 wf : ob'.wf
 lt : b < σ.H.length
 step : ∀ N : AS -> Prop, N (({ σ.flat with H := σ.flat.H.set b (.row ob'.cells e) } : AS).put o.dst .dead) -> Step P o σ.flat N
theorem zq1 {xs : Array Operand} {ts : Array TypeId} {k : Nat -> TypeId -> Ob -> Option R} {r : R} (ho : o.op = .call { callee := .builtin .copy, args := xs, argTypes := ts }) (hw : σ.wf)
  (h : znx P σ (xs.toList.map σ.eval) ts.toList k = some r) : ∃ b e ob', k b e ob' = some r /\ CopyOK P o σ b e ob' := by
 unfold znx at h;generalize hm : xs.toList.map σ.eval = m at h;generalize hts : ts.toList = l at h;split at h
 ·rename_i b rt p u lo n y' t t2;obtain ⟨x, y, rfl, hx, hy⟩ := z7s hm;have e := xN hts; subst e;split at h
  ·rename_i e el ob hu hb;cases hc : yd P e u with
   | false => rw [hc] at h; cases h
   | true =>
    rw [hc] at h;simp only [cond_true] at h;rw [<- hy] at h;obtain ⟨m', h1, h2, h3, h4⟩ := zls hw h;have hob := hw.H _ (kH hb);obtain ⟨o', k1, k2⟩ := zm1 hob h2 h1;have hblt : b < σ.H.length := (kM.1 hb).1;refine ⟨b, el, o', k1, k2.wf, hblt, fun N hN => ?_⟩
    have ex : σ.flat.eval x = .sl b (rt.off p + lo * u.size) n u.size := by rw [zb hx (by simp)]; simp only [TV.pv]
    have hstep := zra (P := P) (σ := σ.flat) (N := fun τ => τ = ({ σ.flat with H := σ.flat.H.set b (.row (splice ob.cells (rt.off p + lo * u.size) ((zj u m').take (min m'.length n * u.size))) el) } : AS).put o.dst (.val (.int .i64 (min m'.length n : Nat)))) ho hu (xB hc).2 ex (z4v hb) k2.le (h4 σ.flat.H fun _ _ => rfl) rfl
    intro c a w K Q hr hK;refine hstep c a w K Q hr fun c' a' w' τ hτ hr' hx' hd => hK c' a' w' _ hN ?_ hx' hd
    subst hτ;have hblf : b < σ.flat.H.length := by simpa [TS.flat] using hblt
    have putH : ∀ (τ : AS) (p : PV), (τ.put o.dst p).H = τ.H /\ (τ.put o.dst p).ts = τ.ts /\ (τ.put o.dst p).n = τ.n := fun τ p => by cases o.dst <;> exact ⟨rfl, rfl, rfl⟩
    refine ⟨?_, ?_⟩
    ·have g := hr'.1;rw [(putH _ _).1, (putH _ _).2.1] at g ⊢;refine Good.le g (by simp) fun i o1 o2 e1 e2 => ?_
     by_cases hi : b = i
     ·subst hi;rw [k0 hblf] at e1 e2;cases e1; cases e2;exact ⟨rfl, k2.cells, k2.leafs⟩
     ·rw [kr hi] at e1 e2;rw [e1] at e2; cases e2;exact zi5 hw.H _ (kH e1)
    ·have hs := hr'.2;cases hdd : o.dst with
     | none => rw [hdd] at hs; exact hs
     | some d =>
      rw [hdd] at hs;refine ⟨hs.1, fun t q hl hlt => ?_⟩
      simp only [AS.put, Ab.look] at hl;cases hbd : kC d t with
      | true =>
       rw [hbd] at hl;simp only [cond_true, Option.some.injEq] at hl;subst hl;have := kB hbd;subst this;have hsz : d < a'.tmps.size := by rw [hs.1]; exact hlt
       exact ⟨a'.tmps[d], by simp [hsz], z46 _⟩
      | false =>
       rw [hbd] at hl;have := hs.2 t q (by simp only [AS.put, Ab.look, hbd, cond_false]; exact hl) hlt
       exact this
  ·cases h
 ·cases h
theorem ztb {el : TypeId} {cells : List PV} {o' : Ob} (hw : σ.wf) (hblt : b < σ.H.length) (hce : CLe cells o'.cells) (hlf : zd o'.cells) {q : PV} (hq : ∀ (c : Cx) (w : World) (v : Value), VR w c q v -> True)
  (hstep : Step P o σ.flat (fun τ => τ = ({ σ.flat with H := σ.flat.H.set b (.row cells el) } : AS).put o.dst q)) : ∀ N : AS -> Prop, N (({ σ.flat with H := σ.flat.H.set b (.row o'.cells el) } : AS).put o.dst .dead) -> Step P o σ.flat N := by
    intro N hN;intro c a w K Q hr hK;refine hstep c a w K Q hr fun c' a' w' τ hτ hr' hx' hd => hK c' a' w' _ hN ?_ hx' hd
    subst hτ;have hblf : b < σ.flat.H.length := by simpa [TS.flat] using hblt
    have putH : ∀ (τ : AS) (p : PV), (τ.put o.dst p).H = τ.H /\ (τ.put o.dst p).ts = τ.ts /\ (τ.put o.dst p).n = τ.n := fun τ p => by cases o.dst <;> exact ⟨rfl, rfl, rfl⟩
    refine ⟨?_, ?_⟩
    ·have g := hr'.1;rw [(putH _ _).1, (putH _ _).2.1] at g ⊢;refine Good.le g (by simp) fun i o1 o2 e1 e2 => ?_
     by_cases hi : b = i
     ·subst hi;rw [k0 hblf] at e1 e2;cases e1; cases e2;exact ⟨rfl, hce, hlf⟩
     ·rw [kr hi] at e1 e2;rw [e1] at e2; cases e2;exact zi5 hw.H _ (kH e1)
    ·have hs := hr'.2;cases hdd : o.dst with
     | none => rw [hdd] at hs; exact hs
     | some d =>
      rw [hdd] at hs;refine ⟨hs.1, fun t q hl hlt => ?_⟩
      simp only [AS.put, Ab.look] at hl;cases hbd : kC d t with
      | true =>
       rw [hbd] at hl;simp only [cond_true, Option.some.injEq] at hl;subst hl;have := kB hbd;subst this;have hsz : d < a'.tmps.size := by rw [hs.1]; exact hlt
       exact ⟨a'.tmps[d], by simp [hsz], z46 _⟩
      | false =>
       rw [hbd] at hl;have := hs.2 t q (by simp only [AS.put, Ab.look, hbd, cond_false]; exact hl) hlt
       exact this
def zk5 (P : Program) (σ : TS) (xs : List TV) (ts : List TypeId) (k : Nat -> TypeId -> Ob -> Option R) : Option R :=
 match xs, ts with
 | [.os b r p u lo n], [t] => match P.underlying t, σ.H[b]? with
  | some (.slice e), some (.ob el o) => match qK P e with
   | some z => bif yd P e u && !kC u.size 0 && kC z.length u.size && u.solid && z1o z (zc u (qk u)) && z.all leaf then
     zgv o r p u (fun l k => bif kR (z23 lo n) (kE l) then k (qC l lo n (kA n (qk u))) else none) fun o' => k b el o' else none
   | none => none
  | _, _ => none
 | _, _ => none
theorem zu8 {xs : Array Operand} {a : TV} (h : xs.toList.map σ.eval = [a]) : ∃ x, xs = #[x] /\ σ.eval x = a := by
 rcases xs with ⟨l⟩
 match l with
 | [] => simp at h
 | [x] => exact ⟨x, rfl, by simpa using h⟩
 | _ :: _ :: _ => simp at h
theorem znf {cs q q' : List PV} {off : Nat} (h : CLe q q') : CLe (splice cs off q) (splice cs off q') := by
 unfold splice;rw [h.1];exact CLe.append (CLe.append (CLe.refl _) h) (CLe.refl _)
theorem znu {xs : Array Operand} {ts : Array TypeId} {k : Nat -> TypeId -> Ob -> Option R} {r : R} (ho : o.op = .call { callee := .builtin .clear, args := xs, argTypes := ts }) (hw : σ.wf)
  (h : zk5 P σ (xs.toList.map σ.eval) ts.toList k = some r) : ∃ b e ob', k b e ob' = some r /\ CopyOK P o σ b e ob' := by
 unfold zk5 at h;generalize hm : xs.toList.map σ.eval = m at h;generalize hts : ts.toList = l at h;split at h
 ·rename_i b rt p u lo n t;obtain ⟨x, rfl, hx⟩ := zu8 hm;have e := xN hts; subst e;split at h
  ·rename_i e el ob hu hb;split at h
   ·rename_i z hz;cases hc : yd P e u && !kC u.size 0 && kC z.length u.size && u.solid && z1o z (zc u (qk u)) && z.all leaf with
    | false => rw [hc] at h; cases h
    | true =>
     rw [hc] at h;simp only [kD, kj] at hc;obtain ⟨⟨⟨⟨⟨c2, c4⟩, c5⟩, c6⟩, c7⟩, c8⟩ := hc;simp only [cond_true] at h;have hzw := z4r u c6;have hwr : ∀ y, y ∈ kA n (qk u) -> wfU u y := fun y hy => by rw [kW hy]; exact hzw
     have hob := hw.H _ (kH hb);obtain ⟨o', k1, k2⟩ := zm1 hob hwr h;have hblt : b < σ.H.length := (kM.1 hb).1;have ex : σ.flat.eval x = .sl b (rt.off p + lo * u.size) n u.size := by rw [zb hx (by simp)]; simp only [TV.pv]
     have hzl : zd z := fun p hp => kV.1 c8 p hp
     have hstep := zp9 (P := P) (σ := σ.flat) (N := fun τ => τ = ({ σ.flat with H := σ.flat.H.set b (.row (splice ob.cells (rt.off p + lo * u.size) (kA n z).flatten) el) } : AS).put o.dst .dead) ho hu hz (kB c5) hzl (fun e0 => by rw [e0] at c4; simp at c4) ex (z4v hb) k2.le rfl
     have hrow : (zj u (kA n (qk u))).take (min (kA n (qk u)).length n * u.size) = (kA n (zc u (qk u))).flatten := by
      rw [<- zaz, List.take_of_length_le];rw [xS hwr, k8, Nat.min_self];exact kO _
     have hce := k2.cells;rw [hrow] at hce;exact ⟨b, el, o', k1, k2.wf, hblt, ztb hw hblt (CLe.trans (znf (z4s (z3t c7) n)) hce) k2.leafs (fun _ _ _ _ => trivial) hstep⟩
   ·cases h
  ·cases h
 ·cases h
def z49 (b : Nat) : Nat -> Fate := fun i => bif kC i b then .gone else .to i
theorem zi0 (b : Nat) : (fun i => (z49 b i).name) = xU b := by
 funext i;simp only [z49, xU];cases kC i b <;> rfl
def Ob.mv (g : Nat -> Fate) : Ob -> Ob
 | .var t => .var (t.mv g)
 | .row u l => .row u l
def TOb.mv (g : Nat -> Fate) : TOb -> TOb
 | .ob e o => .ob e (o.mv g)
 | .gone => .gone
theorem z7j {f : Nat -> Option Nat} (p : PV) : cellsOf (p.ren f) = xK f (cellsOf p) := by
 have one : ∀ q : PV, xK f [q] = [q.ren f] := fun q => by simp only [xK]
 cases p <;> first | (simp only [PV.ren, cellsOf, one]; done) | skip
 ·rename_i b off; simp only [PV.ren]; split <;> simp_all only [cellsOf, xK, PV.ren]
 ·rename_i b off len sz; simp only [PV.ren]; split <;> simp_all only [cellsOf, xK, PV.ren]
 ·rename_i b; simp only [PV.ren]; split <;> simp_all only [cellsOf, xK, PV.ren]
theorem zml (f : Nat -> Option Nat) (a b : List PV) : xK f (a ++ b) = xK f a ++ xK f b := by simp [zay]
mutual
theorem z9v {g : Nat -> Fate} (hg : ∀ b o, g b ≠ .fz o) : ∀ t : TV, t.wf -> (t.mv g).pv = t.pv.ren fun b => (g b).name
 | .v u x, h => by
  simp only [TV.wf] at h;simp only [TV.mv, TV.pv, (zqq h).1]
 | .ptr b r p, _ => by
  simp only [TV.mv, TV.pv, PV.ren];cases hb : g b with
  | to j => simp only [Fate.name, TV.pv]
  | gone => simp only [Fate.name, TV.pv]
  | fz o => exact absurd hb (hg b o)
 | .os b r p u lo n, _ => by
  simp only [TV.mv, TV.pv, PV.ren];cases hb : g b with
  | to j => simp only [Fate.name, TV.pv]
  | gone => simp only [Fate.name, TV.pv]
  | fz o => exact absurd hb (hg b o)
 | .rf t, h => by
  simp only [TV.wf] at h;simp only [TV.mv, TV.pv, PV.ren, z9v hg t h.1, z7j]
 | .agg ts, h => by
  simp only [TV.wf] at h;simp only [TV.mv, TV.pv, PV.ren, zn2 hg ts h.2.1]
 | .tup ts, h => by
  simp only [TV.wf] at h;simp only [TV.mv, TV.pv, PV.ren, zey hg ts h]
 | .fn f ts, h => by
  simp only [TV.wf] at h;simp only [TV.mv, TV.pv, PV.ren, zey hg ts h]
 | .ifc t x, h => by
  simp only [TV.wf] at h;simp only [TV.mv, TV.pv, PV.ren, z9v hg x h]
 | .fsl u l, h => by
  simp only [TV.wf] at h;simp only [TV.mv, TV.pv, PV.ren, xR (xT h)]
 | .osf u l lo n, h => by
  simp only [TV.wf] at h;have hp : yf (List.take (n * u.size) (List.drop (lo * u.size) (zj u l))) := yP.2 fun p hp => yP.1 (xT h) p (kt (kU hp))
  simp only [TV.mv, TV.pv, PV.ren, xR hp]
 | .nil, _ => by simp only [TV.mv, TV.pv, PV.ren, xK]
 | .one, _ | .nilp, _ | .nilf, _ | .yl _, _ | .nili, _ | .nilm, _ | .dead, _ => by simp only [TV.mv, TV.pv, PV.ren]
 | .mp b, _ => by
  simp only [TV.mv, TV.pv, PV.ren];cases hb : g b with
  | to j => rfl
  | gone => rfl
  | fz o => exact absurd hb (hg b o)
theorem zn2 {g : Nat -> Fate} (hg : ∀ b o, g b ≠ .fz o) : ∀ ts : List TV, TV.wfs ts -> TV.cellsL (mvs g ts) = xK (fun b => (g b).name) (TV.cellsL ts)
 | [], _ => rfl
 | t :: ts, h => by
  simp only [TV.wfs] at h;simp only [mvs, TV.cellsL, z9v hg t h.1, z7j, zn2 hg ts h.2, zml]
theorem zey {g : Nat -> Fate} (hg : ∀ b o, g b ≠ .fz o) : ∀ ts : List TV, TV.wfs ts -> TV.pvs (mvs g ts) = xK (fun b => (g b).name) (TV.pvs ts)
 | [], _ => rfl
 | t :: ts, h => by
  simp only [TV.wfs] at h;simp only [mvs, TV.pvs, xK, z9v hg t h.1, zey hg ts h.2]
end
theorem z99 (b : Nat) : ∀ i o, z49 b i ≠ .fz o := fun i o => by
 simp only [z49];cases kC i b <;> simp
theorem zok {o : TOb} (hw : o.wf) : (o.mv (z49 b)).flat = o.flat.ren (xU b) /\ (o.mv (z49 b)).wf := by
 cases o with
 | gone => exact ⟨rfl, trivial⟩
 | ob e o =>
  cases o with
  | row u l => exact ⟨by simp only [TOb.mv, Ob.mv, TOb.flat, AObj.ren, Ob.cells, xR (xT hw)], hw⟩
  | var t =>
   have h1 := z9v (z99 b) t hw.1;rw [zi0] at h1;refine ⟨?_, ?_⟩
   ·simp only [TOb.mv, Ob.mv, TOb.flat, AObj.ren, Ob.cells, TV.cells, h1, z7j]
   ·have := z50 (fun b' o' h => absurd h (z99 b b' o')) t hw.1
    exact ⟨this.1, this.2 hw.2⟩
def zab (b : Nat) (l : List (Nat × TV)) : List (Nat × TV) := l.map fun x => (x.1, x.2.mv (z49 b))
theorem zi1 : ∀ {b : Nat} {l : List (Nat × TV)} {t : Nat}, yn (zab b l) t = (yn l t).map (TV.mv (z49 b))
 | b, [], t => rfl
 | b, (s, v) :: l, t => by
  simp only [zab, kI, yn];cases kC s t with
  | true => rfl
  | false => exact zi1
def zrl (P : Program) (t t2 : TypeId) (u : U) (l : List u.T) (y : TV) (k : List u.T -> Option R) : Option R :=
 match P.underlying t, P.underlying t2, y with
 | some (.slice e), some (.int _), .v (.int .i64) n => match qK P e, (P.info? e).map (·.bytes) with
  | some z, some nb => bif yd P e u && !kC nb 0 && !kC u.size 0 && kC z.length u.size && u.solid && z1o z (zc u (qk u)) && z.all leaf && leI 1 n then z3h l.length n.toNat nb fun _ => k (kA n.toNat (qk u)) else none
  | _, _ => none
 | _, _, _ => none
def ztn (P : Program) (t2 : TypeId) : Bool :=
 match P.underlying t2 with
 | some (.int _) => true
 | _ => false
def zni (P : Program) (σ : TS) (xs : List TV) (ts : List TypeId) (k : Nat -> TypeId -> (u : U) -> List u.T -> Option R) : Option R :=
 match xs, ts with
 | [.os b r [] u 0 n, y], [t, t2] => match σ.H[b]? with
  | some (.ob e (.row u' l)) => bif r.beq (.row u'.canon) && kR σ.p b && (match P.underlying t with | some (.slice e') => kC e' e | _ => false) && u.beq u' then
    (bif kC n (kE l) then (bif ztn P t2 then zrl P t t2 u' l y fun m => k b e u' (l ++ m) else z2m P σ.H t t2 u' l y fun m => k b e u' (l ++ m)) else none) else none
  | _ => none
 | _, _ => none
structure AppendOK (P : Program) (o : Oper) (σ : TS) (b : Nat) (e : TypeId) (u : U) (l : List u.T) : Prop where
 wf : ∀ x, x ∈ l -> wfU u x
 step : ∀ N : TS -> Prop, N { σ with slots := (match o.dst with | some d => [(d, .os σ.H.length (.row u.canon) [] u 0 l.length)] | none => []) ++ zab b σ.slots, H := (σ.H.set b .gone).map (TOb.mv (z49 b)) ++ [.ob e (.row u l)] } -> z1g P o σ N
theorem zrq {xs : Array Operand} {ts : Array TypeId} {k : Nat -> TypeId -> (u : U) -> List u.T -> Option R} {r : R} (ho : o.op = .call { callee := .builtin .append, args := xs, argTypes := ts }) (hw : σ.wf)
  (h : zni P σ (xs.toList.map σ.eval) ts.toList k = some r) : ∃ b e u l, k b e u l = some r /\ AppendOK P o σ b e u l := by
 unfold zni at h;generalize hm : xs.toList.map σ.eval = m at h;generalize hts : ts.toList = tl at h;split at h
 ·rename_i b rt u n y' t t2;obtain ⟨x, y, rfl, hx, hy⟩ := z7s hm;have e := xN hts; subst e;split at h
  ·rename_i e u' l hb;cases hc : rt.beq (.row u'.canon) && kR σ.p b && (match P.underlying t with | some (.slice e') => kC e' e | _ => false) && u.beq u' with
   | false => rw [hc] at h; cases h
   | true =>
    rw [hc] at h;simp only [kD] at hc;obtain ⟨⟨⟨c1, c2⟩, c3⟩, c4⟩ := hc;have e1 := Rt.beq_eq c1;subst e1;have e2 := kL c2;have e4 := U.beq_eq c4;subst e4;simp only [cond_true] at h;cases hn : kC n (kE l) with
    | false => rw [hn] at h; cases h
    | true =>
     rw [hn] at h;have e5 := kB hn;subst e5;simp only [cond_true] at h;have hwl : ∀ z, z ∈ l -> wfU u z := hw.H _ (kH hb);have fin : ∀ (m' : List u.T), k b e u (l ++ m') = some r -> (∀ z, z ∈ m' -> wfU u z) -> (∀ (c : Cx) (a : Act) (w : World) (K : Act -> World -> Prop) (Q : Exit -> Act -> World -> Prop), RelC w c σ.flat a -> c.pn <= b ->
       (∀ v w' c2, Ab.Good w' c2 ((σ.flat.H.set b .gone).map (AObj.ren (xU b)) ++ [.row (xK (xU b) (zj u l ++ zj u m')) e]) [] -> VR w' c2 (.sl σ.flat.H.length 0 (l.length + m'.length) u.size) v -> ExtP c.pn w c w' c2 -> Mv (xU b) w c w' c2 -> K (a.put o.dst v) w') -> o.wp P a w K Q) ->
       ∃ b e u l, k b e u l = some r /\ AppendOK P o σ b e u l := by
      intro m' h1 hwm W;have hall : ∀ z, z ∈ l ++ m' -> wfU u z := fun z hz => (kG.1 hz).elim (hwl z) (hwm z)
      refine ⟨b, e, u, l ++ m', h1, hall, fun N hN => ?_⟩
      intro c a w K Q hr hK;refine W c a w K Q hr.2 (by rw [hr.1]; exact e2) fun v w' c2 hg hv hxp hmv => ?_
      have hpn : c2.pn = σ.p := by rw [hxp.pn, hr.1]
      refine hK c2 _ w' _ hN ⟨fun z hz => ?_, fun q hq => ?_⟩ ⟨hpn, ?_, ?_⟩ (hr.1 ▸ hxp) (Act.put_defers' _ _ _)
      ·rcases kG.1 hz with hz | hz
       ·cases hd : o.dst with
        | none => rw [hd] at hz; cases hz
        | some d => rw [hd] at hz; simp at hz; subst hz; simp only [TV.wf]
       ·simp only [zab, kJ] at hz;obtain ⟨z', hz', rfl⟩ := hz;exact (z50 (fun b' o' h => absurd h (z99 b b' o')) _ (hw.slots _ hz')).1
      ·rcases kG.1 hq with hq | hq
       ·simp only [kJ] at hq;obtain ⟨q', hq', rfl⟩ := hq;refine (zok ?_).2;rcases kN hq' with hq' | hq'
        ·exact hw.H _ hq'
        ·rw [hq']; trivial
       ·simp only [kK] at hq; subst hq; exact hall
      ·have eH : (σ.H.set b TOb.gone).map (fun o => (o.mv (z49 b)).flat) = ((σ.H.map TOb.flat).set b .gone).map (AObj.ren (xU b)) := by
        rw [<- show TOb.flat .gone = AObj.gone from rfl, <- lB, List.map_map]
        refine List.map_congr_left fun q hq => ?_
        refine (zok ?_).1;rcases kN hq with hq | hq
        ·exact hw.H _ hq
        ·rw [hq]; trivial
       have hg' := hg;simp only [TS.flat] at hg' ⊢;rw [List.map_append, List.map_map];have e6 : xK (xU b) (zj u l ++ zj u m') = zj u (l ++ m') := by
        rw [<- z94, xR (xT hall)]
       rw [e6] at hg';rw [show (TOb.flat ∘ TOb.mv (z49 b)) = fun o => (o.mv (z49 b)).flat from rfl, eH]
       exact hg'
      ·have hsz : (a.put o.dst v).tmps.size = σ.n := by
        have := hr.2.2.1;cases o.dst with
        | none => exact this
        | some d => simp only [Act.put, Array.size_setIfInBounds]; exact this
       refine ⟨hsz, fun t0 q hl hlt => ?_⟩
       simp only [TS.flat] at hl hlt;rw [vC] at hl;have old : ∀ z, yn (zab b σ.slots) t0 = some z -> ∃ v0, a.tmps[t0]? = some v0 /\ VR w' c2 z.pv v0 := fun z hz => by
        rw [zi1] at hz;cases hz0 : yn σ.slots t0 with
        | none => rw [hz0] at hz; cases hz
        | some z0 =>
         rw [hz0] at hz;simp only [kS, Option.some.injEq] at hz;subst hz;obtain ⟨v0, k1, k2⟩ := hr.2.2.2 t0 z0.pv (by simp only [TS.flat]; rw [vC, hz0]; rfl) hlt
         obtain ⟨zz, k3, k4⟩ := z3b hz0;have hwz : z0.wf := k4 ▸ hw.slots _ k3;refine ⟨v0, k1, ?_⟩;rw [z9v (z99 b) z0 hwz, zi0];exact VR.move hmv _ k2
       cases hd : o.dst with
       | none =>
        rw [hd] at hl;simp only [List.nil_append] at hl;cases hz : yn (zab b σ.slots) t0 with
        | none => rw [hz] at hl; cases hl
        | some z =>
         rw [hz] at hl;simp only [kS, Option.some.injEq] at hl;subst hl;exact old z hz
       | some d =>
        rw [hd] at hl;simp only [List.cons_append, List.nil_append, yn] at hl;simp only [Act.put];cases hbd : kC d t0 with
        | true =>
         rw [hbd] at hl;simp only [cond_true, kS, Option.some.injEq] at hl;subst hl;have := kB hbd;subst this;have hsz0 : d < a.tmps.size := by rw [hr.2.2.1]; exact hlt
         refine ⟨v, by rw [Array.getElem?_setIfInBounds_self_of_lt hsz0], ?_⟩
         simp only [TV.pv, Rt.off, kY, kQ, kg];have hv' := hv;simp only [TS.flat, ky] at hv';exact hv'
        | false =>
         rw [hbd] at hl;simp only [cond_false] at hl;have hne : d ≠ t0 := fun e => by rw [e, Nat.beq_refl] at hbd; cases hbd
         cases hz : yn (zab b σ.slots) t0 with
         | none => rw [hz] at hl; cases hl
         | some z =>
          rw [hz] at hl;simp only [kS, Option.some.injEq] at hl;subst hl;obtain ⟨v0, k1, k2⟩ := old z hz;exact ⟨v0, by rw [Array.getElem?_setIfInBounds_ne hne]; exact k1, k2⟩
     have ex : σ.flat.eval x = .sl b 0 l.length u.size := by rw [zb hx (by simp)]; simp only [TV.pv, Rt.off, kY, kQ]
     cases hi : ztn P t2 with
     | false =>
      rw [hi, cond_false, <- hy] at h;obtain ⟨m', e', nb, h1, h2⟩ := z5k hw h;have hty := h2.ty;rw [hty] at c3;have := kB c3;subst this;exact fin m' h1 h2.wf fun c a w K Q hr hpn hK => zpe (P := P) (σ := σ.flat) ho hty h2.el h2.src ex (z4v hb) (xS hwl) (h2.srcN σ.flat.H fun _ _ => rfl).ok h2.le hr rfl hpn hK
     | true =>
      rw [hi, cond_true] at h;unfold zrl at h;split at h
      ·rename_i e0 kn n hu ht2;rw [hu] at c3;have := kB c3;subst this;split at h
       ·rename_i z nb hz hnb;cases hc : yd P e0 u && !kC nb 0 && !kC u.size 0 && kC z.length u.size && u.solid && z1o z (zc u (qk u)) && z.all leaf && leI 1 n with
        | false => rw [hc] at h; cases h
        | true =>
         rw [hc] at h;simp only [kD, kj] at hc;obtain ⟨⟨⟨⟨⟨⟨⟨d1, d2⟩, d3⟩, d4⟩, d5⟩, d6⟩, d7⟩, d8⟩ := hc;simp only [cond_true, z3h] at h;cases hg : kR ((l.length + n.toNat) * nb) 140737488355328 with
         | false => rw [hg] at h; cases h
         | true =>
          rw [hg, cond_true] at h;have hle := kL hg;have hn1 : 1 <= n := by simpa [leI] using d8
          obtain ⟨m, rfl⟩ : ∃ m : Nat, n = (m : Int) := ⟨Int.toNat n, (Int.toNat_of_nonneg (Int.le_trans (by decide) hn1)).symm⟩
          simp only [Int.toNat_natCast] at h hle;have hu0 : u.size ≠ 0 := fun e => by rw [e] at d3; cases d3
          have hel : ElemT P e0 u.size nb := ⟨(xB d1).2, hnb, fun e => by rw [e] at d2; simp at d2, z, hz, kB d4⟩
          have hzw := z4r u d5;have hwr : ∀ y, y ∈ kA m (qk u) -> wfU u y := fun y hy => by rw [kW hy]; exact hzw
          refine fin _ h hwr fun c a w K Q hr hpn hK => ?_
          have hyv' : a.eval y = .int .i64 m := by
           have hev := hr.2.eval y;rw [zb (t := .v (.int .i64) (m : Int)) hy (by simp)] at hev
           simp only [TV.pv, pvU, VR] at hev;exact hev.1
          have hmb : m * nb <= 2 ^ 47 := by
           rw [ku] at hle; omega
          obtain ⟨us, q1, q2, q3⟩ := ztg (w := w) (k := .i64) hu hel ht2 hz (kB d4) (by have : (1 : Int) <= (m : Int) := hn1; omega : 0 < m) hu0 hmb
          have hcl : CLe (kA m z).flatten (zj u (kA m (qk u))) := by
           rw [zaz];exact z4s (z3t d6) _
          refine zgy (P := P) (σ := σ.flat) (m := m) (nb := nb) ho hu hel ex (z4v hb) (xS hwl) (by rw [xS hwr, k8]) (yQ hwr) ⟨us, q1, jk ⟨_, _, hr.1⟩ hcl (q2 c), by rw [hyv']; exact q3⟩ (by omega) hr rfl hpn ?_
          rw [k8] at hK;exact hK
       ·cases h
      ·cases h
  ·cases h
 ·cases h
structure EEnt where
 f : FuncId
 ok : TS -> List TV -> Bool
 run : {R : Type} -> TS -> List TV -> (TS -> TV -> Option R) -> Option R
structure EDoes {R : Type} (P : Program) (f : FuncId) (σ : TS) (args : List TV) (k : TS -> TV -> Option R) (r : R) : Prop where
 can : z0n P f = true
 wf : ∃ σ' t, k σ' t = some r /\ σ'.wf /\ t.wf
 calls : ∀ c w a (vs : Array Value), RelT w c σ a -> vs.size = args.length -> VRs w c (args.map TV.pv) (fun i => vs[i]?) ->
  Calls P f vs w fun ed w' => ∃ v σ' t c', ed = .returned v /\ k σ' t = some r /\ σ'.wf /\ t.wf /\ σ'.n = σ.n /\ RelT w' c' σ' a /\ VR w' c' t.pv v /\ ExtP σ.p w c w' c'
def z6u (P : Program) (e : EEnt) : Prop := ∀ (R : Type) (σ : TS) (args : List TV) (k : TS -> TV -> Option R) (r : R), σ.wf -> (∀ a, a ∈ args -> a.wf) -> e.run σ args k = some r -> EDoes P e.f σ args k r
structure DEnt where
 f : FuncId
 ok : TS -> List TV -> Bool
 run : {R : Type} -> TS -> List TV -> (TV -> List (Nat × TypeId × Ob) -> Nat -> List Nat -> Option R) -> Option R
def z2w (us : List (Nat × TypeId × Ob)) : List (Nat × List PV × TypeId) := us.map fun u => (u.1, u.2.2.cells, u.2.1)
def z5h (us : List (Nat × TypeId × Ob)) (H : List TOb) : List TOb := us.foldl (fun H u => H.set u.1 (.ob u.2.1 u.2.2)) H
theorem zee : ∀ (us : List (Nat × TypeId × Ob)) (H : List TOb), (z5h us H).map TOb.flat = D.setAll (z2w us) (H.map TOb.flat)
 | [], _ => rfl
 | u :: us, H => by
  show (z5h us (H.set u.1 _)).map TOb.flat = D.setAll (z2w us) ((H.map TOb.flat).set u.1 _);rw [zee us, lB]; rfl
theorem zin : ∀ (us : List (Nat × TypeId × Ob)) {H : List TOb}, (∀ u, u ∈ us -> u.2.2.wf) -> (∀ o, o ∈ H -> o.wf) -> ∀ o, o ∈ z5h us H -> o.wf
 | [], _, _, h => h
 | u :: us, H, hu, h => by
  show ∀ o, o ∈ z5h us (H.set u.1 _) -> o.wf;refine zin us (fun x hx => hu x (by simp [hx])) fun o ho => ?_
  rcases kN ho with ho | rfl
  ·exact h o ho
  ·exact hu u (by simp)
structure DDoes (P : Program) (f : FuncId) (σ : TS) (args : List TV) (t : TV) (us : List (Nat × TypeId × Ob)) (q : Nat) (L : List Nat) : Prop where
 can : z0n P f = true
 wf : t.wf
 uwf : ∀ u, u ∈ us -> u.2.2.wf
 lt : ∀ b, b ∈ us.map (·.1) ++ L -> b < σ.H.length + q
 has : ∀ j, j < q -> σ.H.length + j ∈ us.map (·.1) ++ L
 calls : ∀ (Y : List AObj) w c (vs : Array Value), (∀ b, b ∈ us.map (·.1) ++ L -> b < σ.H.length -> Y[b]? = σ.flat.H[b]?) -> (∀ j, j < q -> Y[σ.H.length + j]? = some .gone) -> Ab.Good w c Y [] -> vs.size = args.length -> VRs w c (args.map TV.pv) (fun i => vs[i]?) ->
  Calls P f vs w fun ed w' => ∃ v c', ed = .returned v /\ VR w' c' t.pv v /\ Ab.Good w' c' (D.setAll (z2w us) Y) [] /\ Ext w c w' c'
def zjm (P : Program) (e : DEnt) : Prop := ∀ (R : Type) (σ : TS) (args : List TV) (k : TV -> List (Nat × TypeId × Ob) -> Nat -> List Nat -> Option R) (r : R), σ.wf -> (∀ a, a ∈ args -> a.wf) -> e.run σ args k = some r -> ∃ t us q L, k t us q L = some r /\ DDoes P e.f σ args t us q L
def zbv {R : Type} (D : List DEnt) (f : FuncId) (σ : TS) (args : List TV) (k : TV -> List (Nat × TypeId × Ob) -> Nat -> List Nat -> Option R) : Option R :=
 match D with
 | [] => none
 | e :: D => bif kC e.f f && e.ok σ args then e.run σ args k else zbv D f σ args k
theorem ze3 {R : Type} {P : Program} : ∀ {D : List DEnt} {f : FuncId} {σ : TS} {args : List TV} {k : TV -> List (Nat × TypeId × Ob) -> Nat -> List Nat -> Option R} {r : R}, (∀ e, e ∈ D -> zjm P e) -> σ.wf -> (∀ a, a ∈ args -> a.wf) -> zbv D f σ args k = some r -> ∃ t us q L, k t us q L = some r /\ DDoes P f σ args t us q L
 | [], _, _, _, _, _, _, _, _, h => by simp [zbv] at h
 | e :: D, f, σ, args, k, r, hD, hw, ha, h => by
  simp only [zbv] at h;cases hc : kC e.f f && e.ok σ args with
  | true =>
   rw [hc] at h;simp only [kD] at hc;have := kB hc.1;subst this;exact hD e (by simp) R σ args k r hw ha h
  | false => rw [hc] at h; exact ze3 (fun x hx => hD x (by simp [hx])) hw ha h
structure Env where
 E : List Ent
 F : List EEnt
 D : List DEnt
structure EnvsOK (P : Program) (V : Env) : Prop where
 E : za3 P V.E
 F : ∀ e, e ∈ V.F -> z6u P e
 D : ∀ e, e ∈ V.D -> zjm P e
theorem xp (P : Program) : ∀ e, e ∈ ([] : List DEnt) -> zjm P e := fun _ h => by cases h
theorem xt (P : Program) : ∀ e, e ∈ ([] : List EEnt) -> z6u P e := fun _ h => by cases h
theorem xk {e : EEnt} {F : List EEnt} (h : z6u P e) (g : ∀ e, e ∈ F -> z6u P e) : ∀ x, x ∈ e :: F -> z6u P x := fun x hx => by
 rcases ka.1 hx with rfl | hx
 ·exact h
 ·exact g x hx
def zbw {R : Type} (F : List EEnt) (f : FuncId) (σ : TS) (args : List TV) (k : TS -> TV -> Option R) : Option R :=
 match F with
 | [] => none
 | e :: F => bif kC e.f f && e.ok σ args then e.run σ args k else zbw F f σ args k
theorem ze4 {R : Type} {P : Program} : ∀ {F : List EEnt} {f : FuncId} {σ : TS} {args : List TV} {k : TS -> TV -> Option R} {r : R}, (∀ e, e ∈ F -> z6u P e) -> σ.wf -> (∀ a, a ∈ args -> a.wf) -> zbw F f σ args k = some r -> EDoes P f σ args k r
 | [], _, _, _, _, _, _, _, _, h => by simp [zbw] at h
 | e :: F, f, σ, args, k, r, hF, hw, ha, h => by
  simp only [zbw] at h;cases hc : kC e.f f && e.ok σ args with
  | true =>
   rw [hc] at h;simp only [kD] at hc;have := kB hc.1;subst this;exact hF e (by simp) R σ args k r hw ha h
  | false => rw [hc] at h; exact ze4 (fun x hx => hF x (by simp [hx])) hw ha h
def zfb (E : List Ent) (f : FuncId) (H : List TOb) (args : List TV) : Bool :=
 match E with
 | [] => false
 | e :: E => (kC e.f f && e.ok H args) || zfb E f H args
def zql : List TV -> Bool
 | .os _ _ _ _ _ _ :: _ => true
 | _ => false
theorem zq6 {k n : Nat} {vs : Array Value} {fr : Nat × Nat} (h : w.heap[k]? = some (.cells vs e fr)) : (w.freeze ⟨k, n, none⟩ 1).heap[k]? = some (.cells vs e (if fr.1 == fr.2 then (n, n + 1) else (min fr.1 n, max fr.2 (n + 1)))) := by
 obtain ⟨hlt, hk⟩ := kT.1 h;unfold World.freeze;rw [if_neg (by decide)]
 show (w.heap.modify k _)[k]? = _;rw [kc (by rw [ki]; exact hlt), Array.getElem_modify_self, hk]
theorem z38 {k n k' : Nat} (h : k' ≠ k) : (w.freeze ⟨k, n, none⟩ 1).heap[k']? = w.heap[k']? := by
 unfold World.freeze;rw [if_neg (by decide)]
 show (w.heap.modify k _)[k']? = _
 by_cases hk : k' < w.heap.size
 ·rw [kc (by rw [ki]; exact hk), Array.getElem_modify_of_ne (Ne.symm h), kc hk]
 ·rw [Array.getElem?_eq_none (by rw [ki]; omega), Array.getElem?_eq_none (by omega)]
theorem zs8 {k n : Nat} : (w.freeze ⟨k, n, none⟩ 1).heap.size = w.heap.size := by
 unfold World.freeze;rw [if_neg (by decide)]
 show (w.heap.modify k _).size = _;rw [ki]
theorem zo6 {H : List AObj} {ts : List Bool} (g : Ab.Good w c H ts) {cs : List PV} (hb : H[b]? = some (.row cs e)) {k : Nat} (hk : c.m[b]? = some (some k)) {vs : Array Value} {fr : Nat × Nat} (h2 : w.heap[k]? = some (.cells vs e fr)) (hf : nofz fr vs.size) :
  Ab.Good (w.freeze ⟨k, vs.size, none⟩ 1) c H ts /\ Ext w c (w.freeze ⟨k, vs.size, none⟩ 1) c := by
 have hmem : some k ∈ c.m := List.mem_iff_getElem?.2 ⟨b, hk⟩;have hos : (w.freeze ⟨k, vs.size, none⟩ 1).os = w.os /\ (w.freeze ⟨k, vs.size, none⟩ 1).tape = w.tape /\ (w.freeze ⟨k, vs.size, none⟩ 1).output = w.output := by
  unfold World.freeze; rw [if_neg (by decide)]; exact ⟨rfl, rfl, rfl⟩
 have x : Ext w c (w.freeze ⟨k, vs.size, none⟩ 1) c :=
  {os := hos.1, tape := hos.2.1, output := hos.2.2, size := by rw [zs8]; exact kO _
   ids := fun _ _ h => h, new := fun _ h => .inl h
   blocks := fun k' _ hm _ => z38 (fun e => hm (e ▸ hmem))
   cells := fun k' _ hm off' v' _ hv' => by rw [qy (z38 (fun e : k' = k => hm (e ▸ hmem)))]; exact hv'
   toks := fun i _ j h => .inr ⟨i, j, h, kO _⟩
   stay := fun i k' j _ h => ⟨h, z38 (fun e => (g.tok i k' j h).1 (e ▸ hmem))⟩
   room := fun k' vs' e' fr' h => by
    by_cases hkk : k' = k
    ·subst hkk;rw [h2] at h; cases h;exact ⟨_, _, zq6 h2, rfl⟩
    ·exact ⟨vs', fr', (z38 hkk).trans h, rfl⟩
   tlen := kO _, ok := rfl, pn := rfl }
 refine ⟨⟨g.len, g.inj, ?_, g.tl, g.tal, g.tdead, ?_, g.tinj, fun k e h => g.okn k e (lC x.size h), g.okm, g.okt, g.oko, g.gl.ext x⟩, x⟩
 ·intro b' o h
  by_cases hbb : b = b'
  ·subst hbb;rw [hb] at h;cases h;obtain ⟨vs0, fr0, k2, kf, k3, kl, k4⟩ := (g.obj b _ hb).row hk;rw [h2] at k2;cases k2;refine .inr ⟨k, vs, hk, ⟨_, zq6 h2, ?_⟩, k3, kl, zU fun i q hq => ?_⟩
   ·rcases hf with hf | hf
    ·have : (fr.1 == fr.2) = true := by simp [hf]
     rw [this]; exact .inr (kO _)
    ·cases hc : fr.1 == fr.2 with
     | true => exact .inr (kO _)
     | false => exact .inr (Nat.le_min.2 ⟨hf, kO _⟩)
   ·obtain ⟨u, hu, hr⟩ := zo k4 hq;exact ⟨u, hu, hr.ext x⟩
  ·have hne : ∀ k', c.m[b']? = some (some k') -> k' ≠ k := fun k' h' e => hbb (g.inj b b' k hk (e ▸ h'))
   exact (g.obj b' o h).pass x (fun k' h' => ⟨h', z38 (hne k' h')⟩) id
 ·intro i k' j h;obtain ⟨h1', vs', e', fr', h2', h3'⟩ := g.tok i k' j h;exact ⟨h1', vs', e', fr', (z38 (fun e : k' = k => h1' (e ▸ hmem))).trans h2', h3'⟩
theorem zt4 {s e : TypeId} {x : Operand} {ρ : Operand -> Value} {k off len cap : Nat} {vs : Array Value} {et : TypeId} {fr : Nat × Nat} (ho : o.op = .convert s s x) (hs : P.underlying s = some (.slice e)) (he : P.underlying e = some (.int .u8))
  (hρ : ρ x = .slice (some ⟨k, off, none⟩) len cap) (h2 : w.heap[k]? = some (.cells vs et fr)) : (execOp ρ o).run P w = .ok (.value (ρ x)) (w.freeze ⟨k, vs.size, none⟩ 1) := by
 have hsh : (shape k).run P w = .ok (some (et, vs.size)) w := by simp [shape, Sem.run, World.shape?, h2]
 simp only [execOp, ho, hρ];simp [convert, run_underlying hs, run_underlying he, markStringish, kh, hsh, Result.andThen]
theorem zr6 {N : TS -> Prop} {s : TypeId} {x : Operand} {r : Rt} {p : List Stp} {lo n : Nat} {ob : Ob} (ho : o.op = .convert s s x) (hw : σ.wf) (hs : z58 P s = true) (hx : σ.eval x = .os b r p u lo n) (hn : lA 0 n = true) (hb : σ.H[b]? = some (.ob e ob)) (hN : N (σ.put o.dst (.os b r p u lo n))) : z1g P o σ N := by
 intro c a w K Q hr hK;obtain ⟨e0, he1, he2⟩ := z8z hs;have hfv := hr.2.2.eval x;rw [zb hx (by simp)] at hfv
 have hv := hfv;simp only [TV.pv, VR] at hv;have hn0 : 0 < n := lD.mp hn;rcases hv with ⟨_, h0⟩ | ⟨k, cap, off', h1, h2, _, h3, vs0, e1, fr0, h4, h5⟩
 ·omega
 ·have hfb : σ.flat.H[b]? = some (.row ob.cells e) := by simp only [TS.flat, kv, hb, kS, TOb.flat]
  obtain ⟨vs, fr, k2, kf, k3, kl, k4⟩ := (hr.2.1.obj b _ hfb).row h1;obtain ⟨g', x'⟩ := zo6 hr.2.1 hfb h1 k2 kf;unfold Oper.wp;rw [zt4 ho he1 he2 h2 k2];have hr' : RelT (w.freeze ⟨k, vs.size, none⟩ 1) c σ a := ⟨hr.1, g', hr.2.2.ext x'⟩;refine hK c _ _ _ hN (qe hw _ (by have := zu hw x; rwa [hx] at this)) (z1q _ hr' ?_) (z84 hr.noT x') (Act.put_defers' _ _ _)
  exact hfv.ext x'
def zp2 (P : Program) (s t : TypeId) (H : List TOb) : TV -> Bool
 | .os b _ _ _ _ n => kC s t && z58 P s && lA 0 n && (match H[b]? with
  | some (.ob _ _) => true
  | _ => false)
 | _ => false
def zje (P : Program) (V : Env) (own : List Nat) (i : Nat) (o : Oper) (σ : TS) (k : TS -> Option R) : Option R :=
 bif z6n P own i o σ then zoi P o σ fun pf e ob => k { σ.put o.dst (pf σ.H.length) with H := σ.H ++ [.ob e ob] } else
 match o.op with
 | .store t x y => match o.dst with
  | none => zgr P o σ t x y fun b e ob' => k { σ with H := σ.H.set b (.ob e ob') }
  | some _ => none
 | .call { callee := .builtin .append, args := xs, argTypes := ts } =>
  bif zql (xs.toList.map σ.eval) then zni P σ (xs.toList.map σ.eval) ts.toList fun b e u l =>
   k { σ with slots := (match o.dst with | some d => [(d, .os σ.H.length (.row u.canon) [] u 0 (kE l))] | none => []) ++ zab b σ.slots, H := (σ.H.set b .gone).map (TOb.mv (z49 b)) ++ [.ob e (.row u l)] }
  else z2f P V.E o σ fun q => k (σ.put o.dst q)
 | .call { callee := .builtin .copy, args := xs, argTypes := ts } => znx P σ (xs.toList.map σ.eval) ts.toList fun b e ob' => k (TS.put { σ with H := σ.H.set b (.ob e ob') } o.dst .dead)
 | .call { callee := .builtin .clear, args := xs, argTypes := ts } => zk5 P σ (xs.toList.map σ.eval) ts.toList fun b e ob' => k (TS.put { σ with H := σ.H.set b (.ob e ob') } o.dst .dead)
 | .call { callee := .value fo, args := xs, argTypes := _ } => match σ.eval fo with
  | .fn f caps => bif zfb V.E f σ.H (xs.toList.map σ.eval ++ caps) then z2f P V.E o σ fun q => k (σ.put o.dst q)
   else zbw V.F f σ (xs.toList.map σ.eval ++ caps) fun σ' t => k (σ'.put o.dst t)
  | _ => none
 | .convert s t x => bif zp2 P s t σ.H (σ.eval x) then k (σ.put o.dst (σ.eval x)) else z2f P V.E o σ fun q => k (σ.put o.dst q)
 | _ => z2f P V.E o σ fun q => k (σ.put o.dst q)
open Classical in
noncomputable def znq (x y : Option R) : Option R := if x = y then x else none
noncomputable def zsj (n : Nat) (k : Bool -> Option R) : Option R :=
 match n with
 | 0 => znq (k true) (k false)
 | _ + 1 => k false
theorem zhz {x y : Option R} {r : R} (h : znq x y = some r) : x = some r /\ y = some r := by
 unfold znq at h;split at h
 ·rename_i e; exact ⟨h, e ▸ h⟩
 ·cases h
theorem zsk {k : Bool -> Option R} {r : R} (h : zsj n k = some r) : k false = some r /\ (n = 0 -> k true = some r) := by
 unfold zsj at h;split at h
 ·exact ⟨(zhz h).2, fun _ => (zhz h).1⟩
 ·exact ⟨h, fun h => by cases h⟩
def TV.slen : TV -> Option Nat
 | .v (.sl _) l => some (kE l)
 | .fsl _ l => some (kE l)
 | .osf _ _ _ n => some n
 | .os _ _ _ _ _ n => some n
 | .nil => some 0
 | _ => none
def zg7 : Operand -> Bool
 | .const (.slice none 0 0) => true
 | _ => false
def zl7 (P : Program) (o : Oper) (σ : TS) : Option (Nat × Bool) :=
 match o.op with
 | .binOp op t x y _ => bif zg7 y then (match P.underlying t, op with
  | some (.slice _), .eql => (σ.eval x).slen.map fun n => (n, false)
  | some (.slice _), .neq => (σ.eval x).slen.map fun n => (n, true)
  | _, _ => none) else none
 | _ => none
theorem zqh {y : Operand} (h : zg7 y = true) : y = .const (.slice none 0 0) := by
 unfold zg7 at h;split at h
 ·rfl
 ·cases h
theorem zuk (h : t.slen = some n) : (∃ cs k, t.pv = .tr n cs k) \/ ∃ b off sz, t.pv = .sl b off n sz := by
 cases t <;> (try simp only [TV.slen] at h) <;> first | (cases h; done) | skip
 ·rename_i u x;cases u <;> (try simp only [TV.slen] at h) <;> first | (cases h; done) | skip
  cases h;exact .inl ⟨_, _, rfl⟩
 ·cases h; exact .inl ⟨_, _, rfl⟩
 ·cases h; exact .inl ⟨_, _, rfl⟩
 ·cases h; exact .inl ⟨_, _, rfl⟩
 ·cases h; exact .inr ⟨_, _, _, rfl⟩
theorem zmi {ng : Bool} (h : zl7 P o σ = some (n, ng)) {N : TS -> Prop} (hw : σ.wf) (hN : ∀ b : Bool, (n ≠ 0 -> b = false) -> N (σ.put o.dst (.v .bool (bif ng then !b else b)))) : z1g P o σ N := by
 unfold zl7 at h;split at h
 ·rename_i op t x y yt ho;cases hy : zg7 y with
  | false => rw [hy] at h; cases h
  | true =>
   rw [hy] at h;have := zqh hy;subst this;simp only [cond_true] at h;have key : ∀ (e : TypeId), P.underlying t = some (.slice e) -> (op = .eql /\ ng = false) \/ (op = .neq /\ ng = true) -> (σ.eval x).slen = some n -> z1g P o σ N := by
    intro e hu hop hl;intro c a w K Q hr hK;refine zpa (σ := σ.flat) ho hop hu (zb (t := σ.eval x) rfl (fun hd => by rw [hd] at hl; cases hl)) (zuk hl) hr.2 fun b hb => ?_
    refine hK c _ w _ (hN b hb) (qe hw _ (by simp only [TV.wf, wfU])) (z1q _ hr ?_) (ExtP.refl _ _ _) (Act.put_defers' _ _ _)
    simp only [TV.pv, pvU];exact yH rfl
   split at h
   ·rename_i e hu;cases hl : (σ.eval x).slen with
    | none => rw [hl] at h; cases h
    | some m => rw [hl] at h; cases h; exact key e hu (.inl ⟨rfl, rfl⟩) hl
   ·rename_i e hu;cases hl : (σ.eval x).slen with
    | none => rw [hl] at h; cases h
    | some m => rw [hl] at h; cases h; exact key e hu (.inr ⟨rfl, rfl⟩) hl
   ·cases h
 ·cases h
def z4g (g : Nat -> Fate) (l : List (Nat × TV)) : List (Nat × TV) := l.map fun x => (x.1, x.2.mv g)
theorem zcp (g : Nat -> Fate) : ∀ {l : List (Nat × TV)} {t : Nat}, yn (z4g g l) t = (yn l t).map (TV.mv g)
 | [], t => rfl
 | (s, v) :: l, t => by
  simp only [z4g, kI, yn];cases kC s t with
  | true => rfl
  | false => exact zcp g
theorem zlr {g : Nat -> Fate} {w w' : World} {c c' : Cx} (hw : σ.wf) (M : MvH g w c w' c') (hs : SlotsR w c σ.flat a.tmps) (H : List TOb) (p : Nat) : SlotsR w' c' (TS.flat ⟨σ.n, z4g g σ.slots, H, p⟩) a.tmps := by
 refine ⟨hs.1, fun t q hlk hlt => ?_⟩
 simp only [TS.flat] at hlk hlt;rw [vC, zcp] at hlk;cases hl : yn σ.slots t with
 | none => rw [hl] at hlk; cases hlk
 | some v =>
  rw [hl] at hlk;simp only [kS, Option.some.injEq] at hlk;subst hlk;obtain ⟨z, hz1, hz2⟩ := z3b hl;have hwv : v.wf := by rw [<- hz2]; exact hw.slots z hz1
  obtain ⟨u, h1, h2⟩ := hs.2 t v.pv (by simp only [TS.flat, vC, hl, kS]) hlt
  exact ⟨u, h1, (vc M v hwv).pv u h2⟩
theorem zg5 {g : Nat -> Fate} (hg : ∀ b o, g b = .fz o -> o.wf) {l : List (Nat × TV)} (h : ∀ x, x ∈ l -> x.2.wf) : ∀ x, x ∈ z4g g l -> x.2.wf := fun x hx => by
 simp only [z4g, kJ] at hx;obtain ⟨y, hy, rfl⟩ := hx;exact (z50 hg _ (h y hy)).1
def zp8 (σ : TS) (g : Nat -> Fate) (hs : List HPat) (ρ : List (Option Nat)) : TS := ⟨σ.n, z4g g σ.slots, jo g σ.H hs ρ, σ.p⟩
theorem zl5 {g : Nat -> Fate} (hg : ∀ b o, g b = .fz o -> o.wf) {H : List TOb} (hH : ∀ o, o ∈ H -> o.wf) {hs : List HPat} {ρ : List (Option Nat)} : ∀ o, o ∈ jo g H hs ρ -> o.wf := fun o ho => by
 obtain ⟨j, hj⟩ := List.mem_iff_getElem?.1 ho;rcases z4i hj with ⟨_, rfl | ⟨e, u, rfl⟩⟩ | ⟨b, _, ⟨e, t, h1, rfl⟩ | ⟨e, u, l, h1, rfl⟩ | ⟨_, rfl⟩⟩
 ·trivial
 ·exact fun x hx => by cases hx
 ·have := hH _ (kH h1);have m := z50 hg t this.1;exact ⟨m.1, m.2 this.2⟩
 ·exact hH _ (kH h1)
 ·trivial
theorem zc3 {p : Nat} {H : List TOb} (hH : ∀ o, o ∈ H -> o.wf) {ρ : List (Option Nat)} {fz : List Nat} : ∀ b o, qT p H ρ fz b = .fz o -> o.wf := fun b o h => by
 obtain ⟨_, _, _, e, he⟩ := zdh h;exact hH _ (kH he)
theorem zhu (hw : σ.wf) {ρ : List (Option Nat)} {fz : List Nat} {hs : List HPat} : (zp8 σ (qT σ.p σ.H ρ fz) hs ρ).wf :=
 ⟨zg5 (zc3 hw.H) hw.slots, zl5 (zc3 hw.H) hw.H⟩
theorem zlk (hr : RelT w c σ a) (hw : σ.wf) {ρ : List (Option Nat)} (hn : jR σ.p ρ = true) (fz : List Nat) {hs : List HPat} (hl : hs.length = ρ.length) :
  RelT w (jM c ρ) (zp8 σ (qT σ.p σ.H ρ fz) hs ρ) a /\ ExtP σ.p w c w (jM c ρ) := by
 obtain ⟨h1, h2⟩ := zqz hr hw hn fz hl [];exact ⟨⟨h1.1, h1.2.1, zlr hw (zg4 hr.good hw.H hr.1 fz) hr.2.2 _ _⟩, h2 w c (ExtP.refl _ _ _)⟩
def zsf : List (Option Nat) -> Nat -> Bool
 | [], _ => false
 | some b' :: r, b => kC b' b || zsf r b
 | none :: r, b => zsf r b
def z4y (n p : Nat) (fz : List Nat) (ρ : List (Option Nat)) : List (Option Nat) := (List.range n).map fun b => bif z17 fz b && kR p b && !zsf ρ b then none else some b
def zvg (own : List Nat) (i : Nat) (o : Oper) (σ : TS) : List Nat :=
 (bif z17 own i then (match o.op with
  | .store _ _ y => zg8 (σ.eval y)
  | _ => []) else []) ++ (bif z17 own (i + 2000000) then (match o.op with
  | .buildSlice _ _ xs => xs.toList.flatMap fun x => zg8 (σ.eval x.2)
  | _ => []) else [])
def zp7 (σ : TS) (fz : List Nat) : TS := zp8 σ (qT σ.p σ.H (z4y (kE σ.H) σ.p fz []) fz) (kA (kE σ.H) .gone) (z4y (kE σ.H) σ.p fz [])
def zol : TV -> TV
 | .v (.st us) x => .agg (jp us x)
 | t => t
theorem zqk (h : t.wf) : (zol t).wf /\ (zol t).pv = t.pv := by
 unfold zol;split
 ·rename_i us x;simp only [TV.wf, wfU] at h;obtain ⟨h1, h2, h3, h4⟩ := zat us x h;exact ⟨by simp only [TV.wf]; exact ⟨h3, h1, by rw [h2]; exact z16 us x h⟩, by simp only [TV.pv, pvU, zc, h2]⟩
 ·exact ⟨h, rfl⟩
def zlb (t : Nat) : List (Nat × TV) -> List (Nat × TV)
 | [] => []
 | (s, p) :: r => bif kC s t then (s, zol p) :: r else (s, p) :: zlb t r
theorem zib (t : Nat) : ∀ {l : List (Nat × TV)}, (∀ x, x ∈ l -> x.2.wf) -> ((zlb t l).map (fun x => (x.1, x.2.pv)) = l.map fun x => (x.1, x.2.pv)) /\ ∀ x, x ∈ zlb t l -> x.2.wf
 | [], _ => ⟨rfl, fun x h => by cases h⟩
 | (s, p) :: r, h => by
  have hp := zqk (h (s, p) (by simp))
  obtain ⟨h1, h2⟩ := zib t (l := r) fun x hx => h x (by simp [hx])
  simp only [zlb];cases hb : kC s t with
  | true =>
   refine ⟨by simp only [cond_true, kI, hp.2], fun x hx => ?_⟩
   rcases ka.1 hx with rfl | hx
   ·exact hp.1
   ·exact h x (by simp [hx])
  | false =>
   refine ⟨by simp only [cond_false, kI, h1], fun x hx => ?_⟩
   rcases ka.1 hx with rfl | hx
   ·exact h _ (by simp)
   ·exact h2 x hx
def zas (own : List Nat) (i : Nat) (o : Oper) (σ : TS) : TS :=
 match o.op with
 | .store _ _ (.tmp t) => bif z17 own (i + 1000000) then { σ with slots := zlb t σ.slots } else σ
 | _ => σ
variable {i : Nat}
theorem zgb {own : List Nat} (hw : σ.wf) : (zas own i o σ).wf /\ (zas own i o σ).flat = σ.flat /\ (zas own i o σ).p = σ.p /\ (zas own i o σ).n = σ.n := by
 unfold zas;split
 ·rename_i t _;cases z17 own (i + 1000000) with
  | false => exact ⟨hw, rfl, rfl, rfl⟩
  | true =>
   obtain ⟨h1, h2⟩ := zib t hw.slots;exact ⟨⟨h2, hw.H⟩, by simp only [cond_true, TS.flat, h1], rfl, rfl⟩
 ·exact ⟨hw, rfl, rfl, rfl⟩
theorem zsn {own : List Nat} {N : TS -> Prop} (hw : σ.wf) (h : z1g P o (zas own i o σ) N) : z1g P o σ N := by
 obtain ⟨_, h2, h3, _⟩ := zgb (own := own) (i := i) (o := o) hw;intro c a w K Q hr hK;refine h c a w K Q ?_ fun c' a' w' σ' hN hw' hr' hx hd => hK c' a' w' σ' hN hw' hr' (by rw [<- h3]; exact hx) hd
 refine ⟨by rw [h3]; exact hr.1, by rw [h2]; exact hr.2⟩
noncomputable def znz (P : Program) (V : Env) (own : List Nat) (i : Nat) (o : Oper) (σ : TS) (k : TS -> Option R) : Option R :=
 match zvg own i o σ with
  | [] => zje P V own i o σ k
  | b :: bs => bif jR σ.p (z4y (kE σ.H) σ.p (b :: bs) []) then zje P V own i o (zp7 σ (b :: bs)) k else none
noncomputable def zkd (P : Program) (V : Env) (own : List Nat) (i : Nat) (o : Oper) (σ : TS) (k : TS -> Option R) : Option R :=
 match zl7 P o σ with
 | some (n, ng) => zsj n fun b => k (σ.put o.dst (.v .bool (bif ng then !b else b)))
 | none => znz P V own i o (zas own i o σ) k
theorem zfw {own : List Nat} (h : z6n P own i o σ = true) : zdj P o = true := by
 unfold z6n at h;unfold zdj;cases ho : o.op <;> rw [ho] at h <;> first | rfl | exact h
variable {V : Env}
theorem z8e (hV : EnvsOK P V) {k : TS -> Option R} {r : R} (hw : σ.wf) (h : (z2f P V.E o σ fun q => k (σ.put o.dst q)) = some r) :
  z1g P o σ (fun σ' => k σ' = some r /\ σ'.n = σ.n) /\ ∃ σ', σ'.wf /\ k σ' = some r := by
 obtain ⟨q, h1, h2⟩ := zgf hV.E hw h;exact ⟨zow hw h2 ⟨h1, (jL _ _ _).2.1⟩, _, qe hw _ h2.1, h1⟩
theorem zi3 (hV : EnvsOK P V) {own : List Nat} {k : TS -> Option R} {r : R} (hw : σ.wf) (h : zje P V own i o σ k = some r) :
  z1g P o σ (fun σ' => k σ' = some r /\ σ'.n = σ.n) /\ ∃ σ', σ'.wf /\ k σ' = some r := by
 unfold zje at h;cases hk : z6n P own i o σ with
 | true =>
  rw [hk] at h;simp only [cond_true] at h;obtain ⟨pf, e, ob, h1, h2⟩ := zl6 hw (zfw hk) h;refine ⟨zsi hw h2 ⟨h1, (jL _ _ _).2.1⟩, _, ⟨fun x hx => ?_, fun q hq => ?_⟩, h1⟩
  ·exact (qe hw o.dst (h2.pwf σ.H.length)).slots x hx
  ·rcases kG.1 hq with hq | hq
   ·exact hw.H q hq
   ·simp only [kK] at hq; subst hq; exact h2.wf
 | false =>
  rw [hk] at h;simp only [cond_false] at h;split at h
  ·rename_i t x y ho;split at h
   ·rename_i hd;obtain ⟨b, e, ob', h1, h2⟩ := zgs ho hw h;have hw' : TS.wf { σ with H := σ.H.set b (.ob e ob') } := zgn hw b h2.wf;refine ⟨fun c a w K Q hr hK => ?_, _, hw', h1⟩
    refine h2.step σ.flat.H rfl c a w K Q hr.2 fun w' hg hx => ?_
    refine hK c _ w' _ ⟨h1, rfl⟩ hw' ⟨hr.1, ?_, ?_⟩ (z84 hr.noT hx) (Act.put_defers' _ _ _)
    ·rw [zb5]; exact hg
    ·rw [hd]; exact hr.2.2.ext hx
   ·cases h
  ·rename_i xs ts ho;cases hos : zql (xs.toList.map σ.eval) with
   | false => rw [hos] at h; exact z8e hV hw h
   | true =>
    rw [hos] at h;simp only [cond_true] at h;obtain ⟨b, e, u, l, h1, h2⟩ := zrq ho hw h;refine ⟨h2.step _ ⟨h1, rfl⟩, _, ⟨fun z hz => ?_, fun q hq => ?_⟩, h1⟩
    ·rcases kG.1 hz with hz | hz
     ·cases hd : o.dst with
      | none => rw [hd] at hz; cases hz
      | some d => rw [hd] at hz; simp at hz; subst hz; simp only [TV.wf]
     ·simp only [zab, kJ] at hz;obtain ⟨z', hz', rfl⟩ := hz;exact (z50 (fun b' o' h => absurd h (z99 b b' o')) _ (hw.slots _ hz')).1
    ·rcases kG.1 hq with hq | hq
     ·simp only [kJ] at hq;obtain ⟨q', hq', rfl⟩ := hq;refine (zok ?_).2;rcases kN hq' with hq' | hq'
      ·exact hw.H _ hq'
      ·rw [hq']; trivial
     ·simp only [kK] at hq; subst hq; exact h2.wf
  ·rename_i xs ts ho;obtain ⟨b, e, ob', h1, h2⟩ := zq1 ho hw h;have hw' : TS.wf { σ with H := σ.H.set b (.ob e ob') } := zgn hw b h2.wf;have hw2 : (TS.put { σ with H := σ.H.set b (.ob e ob') } o.dst .dead).wf := qe hw' _ z4q;refine ⟨fun c a w K Q hr hK => ?_, _, hw2, h1⟩
   have hstep := h2.step (fun τ => τ = ({ σ.flat with H := σ.flat.H.set b (.row ob'.cells e) } : AS).put o.dst .dead) rfl
   refine hstep c a w K Q hr.2 fun c' a' w' τ hτ hr' hx hd => ?_
   subst hτ;refine hK c' a' w' _ ⟨h1, (jL _ _ _).2.1⟩ hw2 ⟨?_, ?_⟩ (z84 hr.noT hx) hd
   ·rw [(jL _ _ _).2.2, hx.pn, hr.1]
   ·rw [z0x, zb5];simp only [TV.pv];exact hr'
  ·rename_i xs ts ho;obtain ⟨b, e, ob', h1, h2⟩ := znu ho hw h;have hw' : TS.wf { σ with H := σ.H.set b (.ob e ob') } := zgn hw b h2.wf;have hw2 : (TS.put { σ with H := σ.H.set b (.ob e ob') } o.dst .dead).wf := qe hw' _ z4q;refine ⟨fun c a w K Q hr hK => ?_, _, hw2, h1⟩
   have hstep := h2.step (fun τ => τ = ({ σ.flat with H := σ.flat.H.set b (.row ob'.cells e) } : AS).put o.dst .dead) rfl
   refine hstep c a w K Q hr.2 fun c' a' w' τ hτ hr' hx hd => ?_
   subst hτ;refine hK c' a' w' _ ⟨h1, (jL _ _ _).2.1⟩ hw2 ⟨?_, ?_⟩ (z84 hr.noT hx) hd
   ·rw [(jL _ _ _).2.2, hx.pn, hr.1]
   ·rw [z0x, zb5];simp only [TV.pv];exact hr'
  ·rename_i fo xs ats ho;split at h
   ·rename_i f caps hfo;cases ha : zfb V.E f σ.H (xs.toList.map σ.eval ++ caps) with
    | true => rw [ha] at h; exact z8e hV hw h
    | false =>
     rw [ha] at h;simp only [cond_false] at h;have hwf := zu hw fo;rw [hfo] at hwf;simp only [TV.wf] at hwf;have hd := ze4 hV.F hw (fun a ha => by
      rcases kG.1 ha with ha | ha
      ·simp only [kJ] at ha;obtain ⟨x, _, rfl⟩ := ha;exact zu hw x
      ·exact xm.1 hwf a ha) h
     refine ⟨fun c a w K Q hr hK => ?_, ?_⟩
     ·have hrel : RelC w c { σ.flat with H := σ.flat.H ++ [] } a := by rw [List.append_nil]; exact hr.2
      obtain ⟨cv, e1, e2, e3⟩ := zbx (xs := xs) hrel hfo;unfold Oper.wp;rw [zb1 ho hd.can e1];show Calls P f (xs.map a.eval ++ cv) w _;refine (hd.calls c w a _ hr e2 e3).mono ?_;rintro ed w' ⟨v, σ', t, c', rfl, hk', hw', ht, hn, hr', hv, hx⟩;exact hK c' _ w' _ ⟨hk', by rw [(jL _ _ _).2.1]; exact hn⟩ (qe hw' _ ht) (z1q _ hr' hv) hx (Act.put_defers' _ _ _)
     ·obtain ⟨σ', t, hk', hw', ht⟩ := hd.wf;exact ⟨_, qe hw' _ ht, hk'⟩
   ·cases h
  ·rename_i s t x ho;cases hs : zp2 P s t σ.H (σ.eval x) with
   | false => rw [hs] at h; exact z8e hV hw h
   | true =>
    rw [hs] at h;simp only [cond_true] at h;unfold zp2 at hs;split at hs
    ·rename_i b r p u lo n hx;simp only [kD] at hs;obtain ⟨⟨⟨h1, h2⟩, h3⟩, h4⟩ := hs;have := kB h1;subst this;split at h4
     ·rename_i e ob hob;rw [hx] at h;exact ⟨zr6 ho hw h2 hx h3 hob ⟨h, (jL _ _ _).2.1⟩, _, qe hw _ (by have := zu hw x; rwa [hx] at this), h⟩
     ·cases h4
    ·cases hs
  ·exact z8e hV hw h
theorem zq2 (hV : EnvsOK P V) {own : List Nat} {k : TS -> Option R} {r : R} (hw : σ.wf) (h : znz P V own i o σ k = some r) :
  z1g P o σ (fun σ' => k σ' = some r /\ σ'.n = σ.n) /\ ∃ σ', σ'.wf /\ k σ' = some r := by
 unfold znz at h;split at h
 ·exact zi3 hV hw h
 ·rename_i b bs _;cases hc : jR σ.p (z4y (kE σ.H) σ.p (b :: bs) []) with
  | false => rw [hc] at h; cases h
  | true =>
   rw [hc] at h;obtain ⟨h1, h2⟩ := zi3 hV (σ := zp7 σ (b :: bs)) (zhu hw) h;refine ⟨fun c a w K Q hr hK => ?_, h2⟩
   obtain ⟨q1, q2⟩ := zlk hr hw hc (b :: bs) (hs := kA (kE σ.H) .gone) (by simp [z4y])
   refine h1 _ a w K Q q1 fun c' a' w' σ' hN hw' hr' hx hd => hK c' a' w' σ' hN hw' hr' (ExtP.trans q2 hx) hd
theorem zag (hV : EnvsOK P V) {own : List Nat} {k : TS -> Option R} {r : R} (hw : σ.wf) (h : zkd P V own i o σ k = some r) :
  z1g P o σ (fun σ' => k σ' = some r /\ σ'.n = σ.n) /\ ∃ σ', σ'.wf /\ k σ' = some r := by
 unfold zkd at h;split at h
 ·rename_i n ng hc;obtain ⟨h1, h2⟩ := zsk h;refine ⟨zmi hc hw fun b hb => ⟨?_, (jL _ _ _).2.1⟩, _, qe hw _ (by simp only [TV.wf, wfU]), h1⟩
  cases b with
  | false => exact h1
  | true =>
   by_cases h0 : n = 0
   ·exact h2 h0
   ·cases hb h0
 ·obtain ⟨o1, _, _, o4⟩ := zgb (own := own) (i := i) (o := o) hw;obtain ⟨h1, h2⟩ := zq2 hV o1 h;rw [o4] at h1;exact ⟨zsn hw h1, h2⟩
def z6p (d : Nat) (b : Bool) : List (Nat × TV) -> List (Nat × TV)
 | [] => []
 | (t, p) :: r => bif kC t d then (t, .v .bool b) :: r else (t, p) :: z6p d b r
def TS.refine (σ : TS) (d : Nat) (b : Bool) : TS := { σ with slots := z6p d b σ.slots }
theorem zd3 {d : Nat} {b : Bool} : ∀ {l : List (Nat × TV)}, yn l d = some (.v .bool b) -> (z6p d b l).map (fun x => (x.1, x.2.pv)) = l.map fun x => (x.1, x.2.pv)
 | [], h => by simp [yn] at h
 | (t, p) :: r, h => by
  simp only [yn] at h;simp only [z6p];cases hb : kC t d with
  | true => rw [hb] at h; simp only [cond_true, Option.some.injEq] at h ⊢; rw [h]
  | false => rw [hb] at h; simp only [cond_false] at h ⊢; simp only [kI, zd3 h]
theorem zec {d : Nat} {b : Bool} : ∀ {l : List (Nat × TV)} {x : Nat × TV}, x ∈ z6p d b l -> x ∈ l \/ x.2 = .v .bool b
 | [], x, h => by cases h
 | (t, p) :: r, x, h => by
  simp only [z6p] at h;cases hb : kC t d with
  | true =>
   rw [hb] at h;rcases ka.1 h with rfl | h
   ·exact .inr rfl
   ·exact .inl (by simp [h])
  | false =>
   rw [hb] at h;rcases ka.1 h with rfl | h
   ·exact .inl (by simp)
   ·rcases zec h with h | h
    ·exact .inl (by simp [h])
    ·exact .inr h
theorem zmk {d : Nat} {b : Bool} (h : σ.get d = .v .bool b) : (σ.refine d b).flat = σ.flat := by
 unfold TS.get at h;cases hn : lA d σ.n with
 | false => rw [hn] at h; cases h
 | true =>
  rw [hn] at h;simp only [cond_true] at h;cases hl : yn σ.slots d with
  | none => rw [hl] at h; cases h
  | some p => rw [hl] at h; simp only [kx] at h; subst h; simp only [TS.flat, TS.refine, zd3 hl]
theorem zqy (hw : σ.wf) (d : Nat) (b : Bool) : (σ.refine d b).wf :=
 ⟨fun x hx => by
  rcases zec hx with hx | hx
  ·exact hw.slots x hx
  ·rw [hx]; simp only [TV.wf, wfU], hw.H⟩
def z9k (ops : Array Oper) (o : Oper) (view σ : TS) (yes no : TS -> Option R) : Option R :=
 match o.guard with
 | none => yes σ
 | some (j, want) =>
  match (ops[j]?).bind (·.dst) with
  | none => no σ
  | some d =>
   match view.get d with
   | .v .bool β => cond β (cond want (yes (σ.refine d true)) (no (σ.refine d true))) (cond want (no (σ.refine d false)) (yes (σ.refine d false)))
   | .tup _ => no σ
   | _ => none
structure Same (σ σ' : TS) : Prop where
 flat : σ'.flat = σ.flat
 H : σ'.H = σ.H
 p : σ'.p = σ.p
 wf : σ'.wf
theorem z3o {ops : Array Oper} {view σ : TS} {yes no : TS -> Option R} {r : R} (hw : σ.wf) (hv : ∀ d b, view.get d = .v .bool b -> σ.get d = .v .bool b) (h : z9k ops o view σ yes no = some r) :
  ∃ g σ', ql ops view.flat o = some g /\ Same σ σ' /\ (if g = true then yes σ' else no σ') = some r := by
 unfold z9k at h;unfold ql;split at h
 ·rename_i hg; rw [hg]; exact ⟨true, σ, rfl, ⟨rfl, rfl, rfl, hw⟩, h⟩
 ·rename_i j want hg;rw [hg];split at h
  ·rename_i hd; simp only [hd]; exact ⟨false, σ, rfl, ⟨rfl, rfl, rfl, hw⟩, h⟩
  ·rename_i d hd;simp only [hd];rw [z2p];split at h
   ·rename_i β hβ;rw [hβ];have hσ := hv d β hβ;refine ⟨β == want, σ.refine d β, rfl, ⟨zmk hσ, rfl, rfl, zqy hw d β⟩, ?_⟩;cases β <;> cases want <;> exact h
   ·rename_i hβ; rw [hβ]; exact ⟨false, σ, by simp only [TV.pv], ⟨rfl, rfl, rfl, hw⟩, h⟩
   ·cases h
theorem RelT.same {σ σ' : TS} (h : RelT w c σ a) (hs : Same σ σ') : RelT w c σ' a := ⟨by rw [hs.p]; exact h.1, by rw [hs.flat]; exact h.2⟩
theorem zd9 : (TV.tup []).wf := by simp only [TV.wf, TV.wfs]
noncomputable def zf0 {R : Type} (P : Program) (V : Env) (own : List Nat) (ops : Array Oper) : List Oper -> Nat -> TS -> (TS -> Option R) -> Option R
 | [], _, σ, k => k σ
 | o :: r, i, σ, k => z9k ops o σ σ (fun σ => zkd P V own i o σ fun σ' => zf0 P V own ops r (i + 1) σ' k) (fun σ => zf0 P V own ops r (i + 1) (σ.put o.dst (.tup [])) k)
theorem z4j {R : Type} {P : Program} {V : Env} (hV : EnvsOK P V) {own : List Nat} {ops : Array Oper} {k : TS -> Option R} {r : R} : ∀ (l : List Oper) (i : Nat) {σ : TS}, ops.toList.drop i = l -> σ.wf -> zf0 P V own ops l i σ k = some r ->
  (∃ σ', σ'.wf /\ k σ' = some r) /\ ∀ {c : Cx} {a : Act} {w : World} {Q' : Exit -> Act -> World -> Prop}, RelT w c σ a ->
  (∀ c' a' w' σ', k σ' = some r -> σ'.wf -> RelT w' c' σ' a' -> ExtP σ.p w c w' c' -> a'.defers = a.defers -> Q' .normal a' w') -> wpOps P ops Q' (List.range' i l.length) a w
 | [], i, σ, hd, hw, h => ⟨⟨σ, hw, h⟩, fun hr hK => hK _ _ _ σ (by simpa only [zf0] using h) hw hr (ExtP.refl _ _ _) rfl⟩
 | o :: l, i, σ, hd, hw, h => by
  have ho : ops[i]? = some o := by
   have : ops.toList[i]? = some o := by
    have h3 : (ops.toList.drop i)[0]? = some o := by rw [hd]; rfl
    rw [List.getElem?_drop] at h3; simpa using h3
   simpa using this
  have hd' : ops.toList.drop (i + 1) = l := by
   have : ops.toList.drop (i + 1) = (ops.toList.drop i).drop 1 := by rw [List.drop_drop]
   rw [this, hd]; rfl
  simp only [zf0] at h;obtain ⟨g, σ', hg, hs, h⟩ := z3o hw (fun _ _ e => e) h
  cases g with
  | true =>
   simp only [if_true] at h;obtain ⟨hstep, σ2, hw2, h2⟩ := zag hV hs.wf h;refine ⟨(z4j hV l (i + 1) hd' hw2 h2).1, fun {c a w Q'} hr hK => ?_⟩
   simp only [kw, List.range'_succ, wpOps, ho];rw [yZ hr.2.2 hg];simp only [if_true];refine .inl (hstep c a w _ Q' (hr.same hs) fun c' a' w' σ2 hk hw2 hr2 hx hdf => ?_)
   refine (z4j hV l (i + 1) hd' hw2 hk.1).2 hr2 fun c3 a3 w3 σ3 hk3 hw3 hr3 hx3 hd3 => ?_
   have e2 : σ2.p = σ'.p := (hr.same hs).p hr2 hx;rw [e2] at hx3;have := ExtP.trans hx hx3;rw [hs.p] at this;exact hK c3 a3 w3 σ3 hk3 hw3 hr3 this (hd3.trans hdf)
  | false =>
   simp only [kZ, if_false] at h;have hwp := qe hs.wf o.dst zd9;refine ⟨(z4j hV l (i + 1) hd' hwp h).1, fun {c a w Q'} hr hK => ?_⟩
   simp only [kw, List.range'_succ, wpOps, ho];rw [yZ hr.2.2 hg];simp only [kZ, if_false];refine (z4j hV l (i + 1) hd' hwp h).2 (z1q o.dst (hr.same hs) (by simp only [TV.pv, TV.pvs]; exact z6v)) fun c3 a3 w3 σ3 hk3 hw3 hr3 hx3 hd3 => ?_
   rw [(jL _ _ _).2.2, hs.p] at hx3;exact hK c3 a3 w3 σ3 hk3 hw3 hr3 hx3 (hd3.trans (Act.put_defers' _ _ _))
abbrev Fp := List Nat × List Nat
def zv0 (a b : Fp) : Bool := D.meets a.1 b.2 || D.meets b.1 a.2
def z80 (ops : Array Oper) (it : Fp) (j : Nat) : List Fp -> Nat -> Bool
 | [], _ => true
 | jt :: r, k => (!(zv0 it jt) || bef ops k j) && z80 ops it j r (k + 1)
def z6k (ops : Array Oper) : List Fp -> Nat -> Bool
 | [], _ => true
 | it :: r, j => z80 ops it j r (j + 1) && z6k ops r (j + 1)
def zaj (it : D.Item) : Fp := (it.wr, it.rd)
theorem zc0 (ops : Array Oper) (it : D.Item) (j : Nat) : ∀ (l : List D.Item) (k : Nat), z80 ops (zaj it) j (l.map zaj) k = D.confWith ops it j l k
 | [], _ => rfl
 | jt :: r, k => by
  simp only [kI, z80, D.confWith, zc0 ops it j r];rfl
theorem zfn (ops : Array Oper) : ∀ (l : List D.Item) (j : Nat), z6k ops (l.map zaj) j = D.confOk ops l j
 | [], _ => rfl
 | it :: r, j => by simp only [kI, z6k, D.confOk, zc0, zfn ops r]
def z98 (n : Nat) : List Nat -> Bool
 | [] => true
 | b :: L => lA b n && z98 n L
theorem z8k {n : Nat} : ∀ {L : List Nat}, z98 n L = true -> ∀ b, b ∈ L -> b < n
 | [], _, b, hb => by cases hb
 | a :: L, h, b, hb => by
  simp only [z98, kD] at h;rcases ka.1 hb with rfl | hb
  ·exact lD.mp h.1
  ·exact z8k h.2 b hb
def z3l {R : Type} (P : Program) (V : Env) (own : List Nat) (ops : Array Oper) : List Oper -> Nat -> TS -> (List Fp -> TS -> Option R) -> Option R
 | [], _, σ, k => k [] σ
 | o :: r, i, σ, k => z9k ops o (σ.keep (o.looksAt ops)) σ
   (fun σ => bif z98 σ.H.length (xf o (σ.keep (o.looksAt ops))) then
     bif z6n P own i o (σ.keep (o.looksAt ops)) then zoi P o (σ.keep (o.looksAt ops)) fun pf e ob =>
      z3l P V own ops r (i + 1) { σ.put o.dst (pf σ.H.length) with H := σ.H ++ [.ob e ob] } fun fs => k (([σ.H.length], σ.H.length :: xf o (σ.keep (o.looksAt ops))) :: fs)
     else match o.op with
      | .store t x y => match o.dst with
       | none => zgr P o (σ.keep (o.looksAt ops)) t x y fun b e ob' => z3l P V own ops r (i + 1) { σ with H := σ.H.set b (.ob e ob') } fun fs => k (([b], [b]) :: fs)
       | some _ => none
      | .call { callee := .value fo, args := xs, argTypes := _ } => match (σ.keep (o.looksAt ops)).eval fo with
       | .fn f caps => bif zfb V.E f σ.H (xs.toList.map (σ.keep (o.looksAt ops)).eval ++ caps) then z2f P V.E o (σ.keep (o.looksAt ops)) fun q => z3l P V own ops r (i + 1) (σ.put o.dst q) fun fs => k (([], xf o (σ.keep (o.looksAt ops))) :: fs)
        else zbv V.D f (σ.keep (o.looksAt ops)) (xs.toList.map (σ.keep (o.looksAt ops)).eval ++ caps) fun t us q L => z3l P V own ops r (i + 1) { σ.put o.dst t with H := z5h us (σ.H ++ kA q .gone) } fun fs => k ((us.map (·.1), us.map (·.1) ++ L) :: fs)
       | _ => none
      | _ => z2f P V.E o (σ.keep (o.looksAt ops)) fun q => z3l P V own ops r (i + 1) (σ.put o.dst q) fun fs => k (([], xf o (σ.keep (o.looksAt ops))) :: fs)
    else none)
   (fun σ => z3l P V own ops r (i + 1) (σ.put o.dst (.tup [])) fun fs => k (([], []) :: fs))
theorem zsa {l : List Nat} {t : Nat} {p : TV} (h : (σ.keep l).get t = p) (hp : p ≠ .dead) : σ.get t = p := by
 unfold TS.get at h;cases hn : lA t (σ.keep l).n with
 | false => rw [hn] at h; exact absurd h.symm hp
 | true =>
  rw [hn] at h;simp only [cond_true] at h;have key : ∀ (l : List Nat) (q : TV), yn (l.map fun t => (t, σ.get t)) t = some q -> σ.get t = q := by
   intro l
   induction l with
   | nil => intro q h; simp [yn] at h
   | cons s l ih =>
    intro q h;simp only [kI, yn] at h;cases hb : kC s t with
    | true =>
     rw [hb] at h;have := kB hb;subst this;simpa using h
    | false => rw [hb] at h; exact ih q (by simpa using h)
  cases hl : yn (l.map fun t => (t, σ.get t)) t with
  | none => simp only [TS.keep, hl, Option.getD_none] at h; exact absurd h.symm hp
  | some q => simp only [TS.keep, hl, kx] at h; exact h ▸ key l q hl
theorem z48 (σ : AS) (H : List AObj) (d : Option Nat) (p : PV) : AS.put { σ with H := H } d p = { σ.put d p with H := H } := by cases d <;> rfl
theorem zau (l : List Oper) : ∀ (ps : List PV) (σ : AS) (H : List AObj), qd l ps { σ with H := H } = { qd l ps σ with H := H } := by
 induction l with
 | nil => intro ps σ H; cases ps <;> rfl
 | cons o l ih =>
  intro ps σ H;cases ps with
  | nil => rfl
  | cons p ps => simp only [qd, z48]; exact ih ps _ H
structure Drawn (P : Program) (ops : Array Oper) (l : List Oper) (its : List D.Item) (n : Nat) (σ σ' : TS) : Prop where
 does : ∀ m H0, D.Does P ops l its (σ.flat.H ++ kA (n + m) .gone) { σ.flat with H := H0 }
 slots : ∀ H0, { qd l (its.map D.Item.pv) σ.flat with H := H0 } = { σ'.flat with H := H0 }
 heap : ∀ m, D.heapTo its (σ.flat.H ++ kA (n + m) .gone) = σ'.flat.H ++ kA m .gone
 p : σ'.p = σ.p
theorem zkl (σ : TS) (d : Option Nat) (q : TV) (e : TypeId) (ob : Ob) : TS.flat { σ.put d q with H := σ.H ++ [.ob e ob] } = { σ.flat.put d q.pv with H := σ.flat.H ++ [.row ob.cells e] } := by
 cases d <;> simp [TS.flat, TS.put, AS.put, TOb.flat]
theorem zon (hw : σ.wf) (d : Option Nat) {q : TV} (hq : q.wf) (e : TypeId) {ob : Ob} (ho : ob.wf) : TS.wf { σ.put d q with H := σ.H ++ [.ob e ob] } :=
  ⟨(qe hw d hq).slots, fun x hx => by
    rcases kG.1 hx with hx | hx
    · exact hw.H x hx
    · simp only [kK] at hx; subst hx; exact ho⟩
theorem z0v {R : Type} {P : Program} {V : Env} (hV : EnvsOK P V) {own : List Nat} {ops : Array Oper} : ∀ (l : List Oper) (i : Nat) {k : List Fp -> TS -> Option R} {r : R} {σ : TS}, σ.wf -> z3l P V own ops l i σ k = some r ->
  ∃ its n σ', Drawn P ops l its n σ σ' /\ k (its.map zaj) σ' = some r /\ σ'.wf
 | [], i, k, r, σ, hw, h => ⟨[], 0, σ, ⟨fun _ _ => trivial, fun _ => rfl, fun m => by simp [D.heapTo], rfl⟩, by simpa only [z3l, List.map_nil] using h, hw⟩
 | o :: l, i, k, r, σ, hw, h => by
  simp only [z3l] at h;obtain ⟨g, σ1, hg, hs, h⟩ := z3o hw (fun d b e => zsa e (by simp)) h
  rw [zc8] at hg;have hHlen : σ1.H.length = σ.H.length := by rw [hs.H]
  have hlenf : σ.flat.H.length = σ.H.length := by simp [TS.flat]
  have hkf : (σ1.keep (o.looksAt ops)).flat = σ.flat.keep (o.looksAt ops) := by rw [zc8, hs.flat]
  cases g with
  | false =>
   simp only [kZ, if_false] at h;obtain ⟨its, nn, σ', ⟨d1, d2, d3, d4⟩, g2, g3⟩ := z0v hV l (i + 1) (qe hs.wf o.dst zd9) h;have eH : (σ1.put o.dst (.tup [])).flat.H = σ.flat.H := by rw [z0x, hs.flat]; cases o.dst <;> rfl
   rw [eH] at d1 d3;rw [z0x, hs.flat] at d1 d2;simp only [TV.pv, TV.pvs] at d1 d2;refine ⟨D.Item.q (.tup []) [] :: its, nn, σ', ⟨fun m H0 => ⟨⟨false, hg, by simp⟩, ?_⟩, fun H0 => ?_, fun m => d3 m, ?_⟩, g2, g3⟩
   ·rw [z48]; exact d1 m H0
   ·exact d2 H0
   ·rw [d4, (jL _ _ _).2.2, hs.p]
  | true =>
   simp only [if_true] at h;cases hb : z98 σ1.H.length (xf o (σ1.keep (o.looksAt ops))) with
   | false => rw [hb] at h; cases h
   | true =>
    rw [hb] at h;simp only [cond_true] at h;have hb' := z8k hb;have xg : ∀ (m : Nat) (Y : List AObj), (∀ b, b ∈ xf o (σ1.keep (o.looksAt ops)) -> Y[b]? = (σ.flat.H ++ kA m AObj.gone)[b]?) -> ∀ b, b ∈ xf o (σ1.keep (o.looksAt ops)) -> Y[b]? = (σ1.keep (o.looksAt ops)).flat.H[b]? := fun m Y hY b hbm => by
     rw [hY b hbm, ke (by rw [hlenf, <- hHlen]; exact hb' b hbm)]
     rw [hkf]; rfl
    have hkw := zhe hs.wf (o.looksAt ops);have q0 : (z2f P V.E o (σ1.keep (o.looksAt ops)) fun q => z3l P V own ops l (i + 1) (σ1.put o.dst q) fun fs => k (([], xf o (σ1.keep (o.looksAt ops))) :: fs)) = some r -> ∃ its n σ', Drawn P ops (o :: l) its n σ σ' /\ k (its.map zaj) σ' = some r /\ σ'.wf := by
     intro h;obtain ⟨q, h1, h2, h3⟩ := zgf hV.E hkw h;obtain ⟨its, nn, σ', ⟨d1, d2, d3, d4⟩, g2, g3⟩ := z0v hV l (i + 1) (qe hs.wf o.dst h2) h1;have eH : (σ1.put o.dst q).flat.H = σ.flat.H := by rw [z0x, hs.flat]; cases o.dst <;> rfl
     rw [eH] at d1 d3;rw [z0x, hs.flat] at d1 d2;refine ⟨D.Item.q q.pv (xf o (σ1.keep (o.looksAt ops))) :: its, nn, σ', ⟨fun m H0 => ⟨⟨true, hg, ?_⟩, ?_⟩, fun H0 => d2 H0, fun m => d3 m, ?_⟩, g2, g3⟩
     ·rw [if_pos rfl];intro Y hY;have := h3 Y (xg _ Y hY);rw [hkf] at this;exact this
     ·rw [z48]; exact d1 m H0
     ·rw [d4, (jL _ _ _).2.2, hs.p]
    cases hk : z6n P own i o (σ1.keep (o.looksAt ops)) with
    | true =>
     rw [hk] at h;simp only [cond_true] at h;obtain ⟨pf, e, ob, h1, h2⟩ := zl6 hkw (zfw hk) h;obtain ⟨its, nn, σ', ⟨d1, d2, d3, d4⟩, g2, g3⟩ := z0v hV l (i + 1) (zon hs.wf o.dst (h2.pwf σ1.H.length) e h2.wf) h1;rw [zkl, hs.flat] at d1 d2 d3;have eset : ∀ m, (σ.flat.H ++ kA (m + 1) AObj.gone).set σ.H.length (.row ob.cells e) = σ.flat.H ++ [.row ob.cells e] ++ kA m .gone := fun m => by
      rw [List.set_append_right _ _ (by rw [hlenf]; exact kO _), hlenf, Nat.sub_self, kb]
      simp
     refine ⟨D.Item.al (fun b => (pf b).pv) σ.H.length ob.cells e (xf o (σ1.keep (o.looksAt ops))) :: its, nn + 1, σ', ⟨fun m H0 => ⟨⟨?_, hg, ?_⟩, ?_⟩, fun H0 => ?_, fun m => ?_, ?_⟩, ?_, g3⟩
     ·show (σ.flat.H ++ kA (nn + 1 + m) AObj.gone)[σ.H.length]? = some .gone;rw [List.getElem?_append_right (by rw [hlenf]; exact kO _), hlenf, Nat.sub_self, show nn + 1 + m = (nn + m) + 1 by omega, kb]
      rfl
     ·intro Y hY;have := h2.new Y (xg _ Y hY);rw [hkf] at this;exact this
     ·rw [z48];simp only [D.Item.upd, D.Item.pv];rw [show nn + 1 + m = (nn + m) + 1 by omega, eset, <- hHlen]
      exact d1 m H0
     ·simp only [kI, qd, D.Item.pv];have := d2 H0;rw [zau] at this;rw [<- hHlen];exact this
     ·simp only [D.heapTo, D.Item.upd];rw [show nn + 1 + m = (nn + m) + 1 by omega, eset]
      exact d3 m
     ·rw [d4]; exact ((jL _ _ _).2.2).trans hs.p
     ·rw [kI];simp only [zaj, D.Item.wr, D.Item.rd];rw [<- hHlen]; exact g2
    | false =>
     rw [hk] at h;simp only [cond_false] at h;split at h
     ·rename_i t x y ho;split at h
      ·rename_i hd;obtain ⟨b, e, ob', h1, h2⟩ := zgs ho hkw h;obtain ⟨ob, hob⟩ := h2.ob;have hlt : b < σ.H.length := by rw [<- hHlen]; exact h2.lt
       obtain ⟨its, nn, σ', ⟨d1, d2, d3, d4⟩, g2, g3⟩ := z0v hV l (i + 1) (zgn hs.wf b (o := .ob e ob') h2.wf) h1;rw [zb5, hs.flat] at d1 d2 d3;have eset : ∀ m, (σ.flat.H ++ kA m AObj.gone).set b (.row ob'.cells e) = σ.flat.H.set b (.row ob'.cells e) ++ kA m .gone := fun m => by
        rw [List.set_append_left _ _ (by rw [hlenf]; exact hlt)]
       refine ⟨D.Item.ef (.tup []) [(b, ob'.cells, e)] [] :: its, nn, σ', ⟨fun m H0 => ⟨⟨hg, ?_⟩, ?_⟩, fun H0 => ?_, fun m => ?_, ?_⟩, g2, g3⟩
       ·intro Y hY;have hh : (σ1.keep (o.looksAt ops)).flat.H = σ.flat.H := by rw [hkf]; rfl
        have := h2.step Y (by rw [hY b (by simp), ke (by rw [hlenf]; exact hlt), hh])
        rw [hkf] at this;intro c a w K Q hr hK;exact this c a w K Q hr fun w' hg' hx => hK undef c w' (.inr hd) hg' hx
       ·rw [z48, hd];simp only [D.Item.upd, D.setAll, List.foldl_cons, List.foldl_nil, AS.put];rw [eset];exact d1 m H0
       ·simp only [kI, qd, hd, AS.put];have := d2 H0;rw [zau] at this;exact this
       ·simp only [D.heapTo, D.Item.upd, D.setAll, List.foldl_cons, List.foldl_nil];rw [eset]; exact d3 m
       ·rw [d4]; exact hs.p
      ·cases h
     ·rename_i fo xs ats ho;split at h
      ·rename_i f caps hfo;cases ha : zfb V.E f σ1.H (xs.toList.map (σ1.keep (o.looksAt ops)).eval ++ caps) with
       | true => rw [ha] at h; exact q0 h
       | false =>
        rw [ha] at h;simp only [cond_false] at h;have hwf := zu hkw fo;rw [hfo] at hwf;simp only [TV.wf] at hwf;obtain ⟨t, us, q, L, h1, h2⟩ := ze3 hV.D hkw (fun a ha => by
         rcases kG.1 ha with ha | ha
         ·simp only [kJ] at ha;obtain ⟨x, _, rfl⟩ := ha;exact zu hkw x
         ·exact xm.1 hwf a ha) h
        have hkH : (σ1.keep (o.looksAt ops)).H.length = σ.H.length := hHlen;have hwn : TS.wf { σ1.put o.dst t with H := z5h us (σ1.H ++ kA q .gone) } := ⟨(qe hs.wf o.dst h2.wf).slots, zin us h2.uwf fun x hx => by
         rcases kG.1 hx with hx | hx
         ·exact hs.wf.H x hx
         ·rw [kW hx]; trivial⟩
        obtain ⟨its, nn, σ', ⟨d1, d2, d3, d4⟩, g2, g3⟩ := z0v hV l (i + 1) hwn h1;have ef : TS.flat { σ1.put o.dst t with H := z5h us (σ1.H ++ kA q .gone) } = { σ.flat.put o.dst t.pv with H := D.setAll (z2w us) (σ.flat.H ++ kA q .gone) } := by
         have e1 : (z5h us (σ1.H ++ kA q .gone)).map TOb.flat = D.setAll (z2w us) (σ.flat.H ++ kA q .gone) := by
          rw [zee, hs.H, List.map_append, List.map_replicate]; rfl
         have e2 := hs.flat;have e3 := z0x σ1 o.dst t;rw [e2] at e3;simp only [TS.flat] at e3 e1 ⊢;rw [e1];have := congrArg (fun τ : AS => ({ τ with H := D.setAll (z2w us) (σ.H.map TOb.flat ++ kA q .gone) } : AS)) e3
         simpa only using this
        rw [ef] at d1 d2 d3;have eset : ∀ m, D.setAll (z2w us) (σ.flat.H ++ kA (q + nn + m) AObj.gone) = D.setAll (z2w us) (σ.flat.H ++ kA q .gone) ++ kA (nn + m) .gone := fun m => by
         have key' : ∀ (m : Nat) (us : List (Nat × TypeId × Ob)) (H : List AObj), (∀ b, b ∈ us.map (·.1) -> b < H.length) -> D.setAll (z2w us) (H ++ kA m AObj.gone) = D.setAll (z2w us) H ++ kA m .gone := by
          intro m us
          induction us with
          | nil => intro H _; rfl
          | cons u us ih =>
           intro H hl;show D.setAll (z2w us) ((H ++ _).set u.1 _) = D.setAll (z2w us) (H.set u.1 _) ++ _;rw [List.set_append_left _ _ (hl u.1 (by simp))]
           exact ih _ fun b hb => by rw [List.length_set]; exact hl b (by simp [hb])
         rw [show q + nn + m = q + (nn + m) by omega, <- List.replicate_append_replicate, <- List.append_assoc]
         exact key' (nn + m) us _ fun b hb => by
          have := h2.lt b (k9 _ hb);rw [kg, k8, hlenf, <- hkH]; exact this
        have hus : (z2w us).map (·.1) = us.map (·.1) := by simp [z2w]
        refine ⟨D.Item.ef t.pv (z2w us) L :: its, q + nn, σ', ⟨fun m H0 => ⟨⟨hg, ?_⟩, ?_⟩, fun H0 => ?_, fun m => ?_, ?_⟩, ?_, g3⟩
        ·intro Y hY c a w K Q hr hK;have hh : (σ1.keep (o.looksAt ops)).flat.H = σ.flat.H := by rw [hkf]; rfl
         have hrel : RelC w c { (σ1.keep (o.looksAt ops)).flat with H := Y } a := by rw [hkf]; exact hr
         obtain ⟨cv, e1, e2, e3⟩ := zbx (xs := xs) hrel hfo;unfold Oper.wp;rw [zb1 ho h2.can e1];show Calls P f (xs.map a.eval ++ cv) w _;refine (h2.calls Y w c _ (fun b hb hlt => ?_) (fun j hj => ?_) hrel.1 e2 e3).mono ?_
         ·rw [hY b (by rw [hus]; exact hb), hh, ke (by rw [hlenf, <- hkH]; exact hlt)]
         ·rw [hY _ (by rw [hus]; exact h2.has j hj), hkH, List.getElem?_append_right (by rw [hlenf]; omega), hlenf, Nat.add_sub_cancel_left, List.getElem?_replicate, if_pos (by omega)]
         ·rintro ed w' ⟨v, c', rfl, hv, hg', hx⟩;exact hK v c' w' (.inl hv) hg' hx
        ·rw [z48];simp only [D.Item.upd, D.Item.pv];rw [eset];exact d1 m H0
        ·simp only [kI, qd, D.Item.pv];have := d2 H0;rw [zau] at this;exact this
        ·simp only [D.heapTo, D.Item.upd];rw [eset]; exact d3 m
        ·rw [d4]; exact ((jL _ _ _).2.2).trans hs.p
        ·rw [kI];simp only [zaj, D.Item.wr, D.Item.rd, hus];exact g2
      ·cases h
     ·exact q0 h
def z2e (ops : Array Oper) : List Nat -> Nat -> Bool
 | [], lo => kC lo ops.size
 | 0 :: ps, lo => lA lo ops.size && znl ops lo && z2e ops ps (lo + 1)
 | (m + 1) :: ps, lo => kR (lo + (m + 1)) ops.size && D.drawOkAt ops lo (lo + (m + 1)) && zp3 ops lo (lo + (m + 1)) && z2e ops ps (lo + (m + 1))
noncomputable def vG {R : Type} (P : Program) (V : Env) (own : List Nat) (ops : Array Oper) (k : TS -> Option R) : List Nat -> Nat -> TS -> Option R
 | [], _, σ => k σ
 | 0 :: ps, lo, σ => match ops[lo]? with
  | some o => z9k ops o σ σ (fun σ => zkd P V own lo o σ fun σ' => vG P V own ops k ps (lo + 1) σ') (fun σ => vG P V own ops k ps (lo + 1) (σ.put o.dst (.tup [])))
  | none => none
 | (m + 1) :: ps, lo, σ => z3l P V own ops (seg ops lo (lo + (m + 1))) lo σ fun fs σ' => bif z6k ops fs lo then vG P V own ops k ps (lo + (m + 1)) σ' else none
theorem zs0 (hV : EnvsOK P V) {own : List Nat} {ops : Array Oper} {k : TS -> Option R} {r : R} : ∀ (ps : List Nat) (lo : Nat) {σ : TS}, σ.wf -> vG P V own ops k ps lo σ = some r -> ∃ σ', σ'.wf /\ k σ' = some r := by
 intro ps
 induction ps with
 | nil => intro lo σ hw h; exact ⟨σ, hw, by simpa only [vG] using h⟩
 | cons m ps ih =>
  intro lo σ hw h;cases m with
  | zero =>
   simp only [vG] at h;split at h
   ·obtain ⟨g, σ', hg, hs, h⟩ := z3o hw (fun _ _ e => e) h
    cases g with
    | true =>
     simp only [if_true] at h;obtain ⟨_, σ2, h1, h2⟩ := zag hV hs.wf h;exact ih _ h1 h2
    | false =>
     simp only [kZ, if_false] at h;exact ih _ (qe hs.wf _ zd9) h
   ·cases h
  | succ m =>
   simp only [vG] at h;obtain ⟨its, _, σ', _, g2, g3⟩ := z0v hV _ _ hw h;cases hc : z6k ops (its.map zaj) lo with
   | false => rw [hc] at g2; cases g2
   | true => rw [hc] at g2; exact ih _ g3 g2
theorem zqr (l : List Oper) (ps : List PV) (σ : AS) : (qd l ps σ).n = σ.n := (z4k l ps σ).1
theorem zny (hV : EnvsOK P V) {own : List Nat} {ops : Array Oper} {k : TS -> Option R} {r : R} {Q' : Exit -> Act -> World -> Prop} (hdn : ∀ o, o ∈ ops.toList -> o.dst.all (fun d => decide (d < n)) = true) :
  ∀ (ps : List Nat) (lo : Nat) {σ : TS} {c : Cx} {a : Act} {w : World} (fuel : Nat) (listed : Array Bool), σ.n = n -> z2e ops ps lo = true -> vG P V own ops k ps lo σ = some r -> σ.wf -> RelT w c σ a ->
  listed.size = ops.size -> (∀ j, j < ops.size -> (listed.getD j false = true ↔ j < lo)) -> z97 ops listed -> left ops listed <= fuel ->
  (∀ c' a' w' σ', k σ' = some r -> σ'.wf -> RelT w' c' σ' a' -> ExtP σ.p w c w' c' -> a'.defers = a.defers -> Q' .normal a' w') -> wpAny P .any ops Q' fuel listed a w := by
 intro ps
 induction ps with
 | nil =>
  intro lo σ c a w fuel listed _ hp h hw hr hs hl hc hf hK;simp only [z2e] at hp;simp only [vG] at h;have e := kB hp;exact zrp hs (fun j hj => (hl j hj).2 (by omega)) (hK c a w σ h hw hr (ExtP.refl _ _ _) rfl) fuel
 | cons m ps ih =>
  intro lo σ c a w fuel listed hn hp h hw hr hs hl hc hf hK;cases m with
  | zero =>
   simp only [z2e, kD] at hp;simp only [vG] at h;have hlt : lo < ops.size := lD.mp hp.1.1;have ho : ops[lo]? = some ops[lo] := by simp [hlt]
   rw [ho] at h;simp only at h;obtain ⟨g, σ', hg, hsm, h⟩ := z3o hw (fun _ _ e => e) h
   have hn' : σ'.n = n := by
    have e2 : σ'.n = σ.n := congrArg AS.n hsm.flat;exact e2.trans hn
   refine zrv hp.1.2 ho hs hl hc hf fun fuel' listed' s1 s2 s3 s4 => ?_
   unfold wpOp;rw [ho];simp only;rw [yZ hr.2.2 hg];cases g with
   | true =>
    simp only [if_true] at h ⊢;refine .inl ((zag hV hsm.wf h).1 c a w _ Q' (hr.same hsm) fun c' a' w' σ2 hk hw2 hr2 hx hdf => ?_)
    have e2 : σ2.p = σ.p := ((hr.same hsm).p hr2 hx).trans hsm.p;rw [hsm.p] at hx;exact ih (lo + 1) fuel' listed' (hk.2.trans hn') hp.2 hk.1 hw2 hr2 s1 s2 s3 s4 fun c3 a3 w3 σ3 hk3 hw3 hr3 hx3 hd3 => hK c3 a3 w3 σ3 hk3 hw3 hr3 (ExtP.trans hx (e2 ▸ hx3)) (hd3.trans hdf)
   | false =>
    simp only [kZ, if_false] at h ⊢;refine ih (lo + 1) fuel' listed' ?_ hp.2 h (qe hsm.wf _ zd9) (z1q _ (hr.same hsm) (by simp only [TV.pv, TV.pvs]; exact z6v)) s1 s2 s3 s4 fun c3 a3 w3 σ3 hk3 hw3 hr3 hx3 hd3 => hK c3 a3 w3 σ3 hk3 hw3 hr3 ?_ (hd3.trans (Act.put_defers' _ _ _))
    ·rw [(jL _ _ _).2.1]; exact hn'
    ·rw [(jL _ _ _).2.2, hsm.p] at hx3; exact hx3
  | succ m =>
   simp only [z2e, kD] at hp;simp only [vG] at h;obtain ⟨⟨⟨hp1, hp2⟩, hp3⟩, hp4⟩ := hp;have hle' := kL hp1;obtain ⟨its, nn, σ', ⟨d1, d2, d3, d4⟩, g2, g3⟩ := z0v hV _ _ hw h;cases hcf : z6k ops (its.map zaj) lo with
   | false => rw [hcf] at g2; cases g2
   | true =>
    rw [hcf] at g2;rw [zfn] at hcf;simp only [cond_true] at g2;have hseg : ∀ o, o ∈ seg ops lo (lo + (m + 1)) -> o ∈ ops.toList := fun o ho => kt (kU ho)
    have hheap := d3 0;simp only [Nat.add_zero, List.replicate_zero, List.append_nil] at hheap;have hdoes := d1 0 (σ.flat.H ++ kA nn .gone);rw [Nat.add_zero] at hdoes;obtain ⟨gd, xr⟩ := zi6 hr.2.1 nn;refine D.seg_draw (σ := { σ.flat with H := σ.flat.H ++ kA nn .gone }) its hp2 hp3 (by omega) hle' (fun o ho => by
      have := hdn o (hseg o ho);rw [<- hn] at this; exact this) hcf hdoes (left ops listed) fuel listed { c with m := c.m ++ kA nn none } a w rfl hf ?_ ?_
    ·refine ⟨?_, hr.2.2.1, hs, fun t ht _ => ?_, fun j o it t hjl hD ho => ?_, hc, fun j hjl hjs => (hl j hjs).2 hjl, fun j hD => ?_⟩
     ·have e0 : D.heapAt (fun j => listed.getD j false) its lo (σ.flat.H ++ kA nn .gone) = σ.flat.H ++ kA nn .gone := by
       have := D.heapTo_take its lo 0 (σ.flat.H ++ kA nn .gone);have none : ∀ (l : List D.Item) (j : Nat) (X : List AObj), (∀ k, j <= k -> listed.getD k false = false) -> D.heapAt (fun j => listed.getD j false) l j X = X := by
        intro l
        induction l with
        | nil => intro j X _; rfl
        | cons a l ih =>
         intro j X hX;simp only [D.heapAt, hX j (kO _), cond_false];exact ih _ _ fun k hk => hX k (by omega)
       refine none its lo _ fun k hk => ?_
       cases hD : listed.getD k false with
       | false => rfl
       | true =>
        have := (hl _ (z3a hs hD)).1 hD; omega
      rw [e0]; exact gd
     ·have := hr.2.2.eval (.tmp t);have h2 : VR w c (σ.flat.get t) (a.tmps.getD t undef) := by simpa only [AS.eval, Act.eval] using this
      exact h2.ext xr
     ·have hjs := z3a hs hD;have := (hl j hjs).1 hD; omega
     ·have hjs := z3a hs hD;have := (hl j hjs).1 hD; omega
    ·intro fuel' listed' c' a' w' s1 s2 s3 s4 s5 s6 s7;have e4 : D.behind (seg ops lo (lo + (m + 1))) its { σ.flat with H := σ.flat.H ++ kA nn .gone } = σ'.flat := by
      simp only [D.behind];rw [hheap, zau];exact d2 _
     rw [e4] at s5;have hx : ExtP σ.p w c w' c' := z84 hr.noT (xr.trans s6);have hr' : RelT w' c' σ' a' := ⟨by rw [d4, <- hr.1]; exact hx.pn, s5⟩
     refine ih (lo + (m + 1)) fuel' listed' ?_ hp4 g2 g3 hr' s1 s2 s3 s4 fun c3 a3 w3 σ3 hk3 hw3 hr3 hx3 hd3 => hK c3 a3 w3 σ3 hk3 hw3 hr3 (ExtP.trans hx (d4 ▸ hx3)) (hd3.trans s7)
     have e5 := congrArg AS.n (d2 []);have e6 : σ'.n = σ.n := by
      have h1 : (qd (seg ops lo (lo + (m + 1))) (its.map D.Item.pv) σ.flat).n = σ.flat.n := zqr _ _ _;exact (show σ'.n = _ from e5.symm).trans h1
     exact e6.trans hn
theorem RelT.andX {w w' w2 : World} {c c' c2 : Cx} {σ σ' : TS} {a a' : Act} (hr : RelT w c σ a) (hr' : RelT w' c' σ' a') (hx : ExtP σ.p w c w' c') (h2 : ExtP σ'.p w' c' w2 c2) : ExtP σ.p w c w2 c2 := by
 rw [hr.p hr' hx] at h2;exact ExtP.trans hx h2
def z91 (D : Nat) : Deferred := { target := .collected D, args := #[] }
def Mk (w w' : World) (c' : Cx) (d d' : List Deferred) : Prop :=
 ∃ l : List Nat, d' = l.map z91 ++ d /\ l.Nodup /\ ∀ D, D ∈ l -> w.heap.size <= D /\ w'.heap[D]? = some (.deferred (some [])) /\ some D ∉ c'.m
theorem Mk.of_eq {w w' : World} {c' : Cx} {d d' : List Deferred} (h : d' = d) : Mk w w' c' d d' := ⟨[], by simp [h], List.nodup_nil, fun D h => by cases h⟩
theorem Mk.ext {p : Nat} {w w1 w2 : World} {c1 c2 : Cx} {d d' : List Deferred} (h : Mk w w1 c1 d d') (x : ExtP p w1 c1 w2 c2) : Mk w w2 c2 d d' := by
 obtain ⟨l, h1, h2, h3⟩ := h;refine ⟨l, h1, h2, fun D hD => ?_⟩
 obtain ⟨g1, g2, g3⟩ := h3 D hD;have hlt : D < w1.heap.size := (kT.1 g2).1;exact ⟨g1, (x.blocks D hlt g3).trans g2, fun h => (x.new D h).elim g3 fun h' => absurd hlt (lE.2 h')⟩
theorem Mk.trans {p : Nat} {w w1 w2 : World} {c1 c2 : Cx} {d d1 d2 : List Deferred} (hs : w.heap.size <= w1.heap.size) (h : Mk w w1 c1 d d1) (x : ExtP p w1 c1 w2 c2) (h2 : Mk w1 w2 c2 d1 d2) : Mk w w2 c2 d d2 := by
 obtain ⟨l, e1, n1, g1⟩ := h.ext x;obtain ⟨l', e2, n2, g2⟩ := h2;obtain ⟨l0, e0, _, g0⟩ := h;refine ⟨l' ++ l, by rw [e2, e1]; simp, List.nodup_append.2 ⟨n2, n1, fun a ha b hb e => ?_⟩, fun D hD => ?_⟩
 ·subst e;have := (g2 a ha).1;have h3 : l0 = l := by
   have h4 : l0.map z91 = l.map z91 := List.append_cancel_right (e0.symm.trans e1);exact List.map_inj_right (fun x y h => by simpa [z91] using h) |>.1 h4
  subst h3;exact absurd (kT.1 (g0 a hb).2.1).1 (lE.2 this)
 ·rcases kG.1 hD with hD | hD
  ·exact ⟨lC hs (g2 D hD).1, (g2 D hD).2⟩
  ·exact g1 D hD
def RecOK (ro : Option Nat) (w : World) (c : Cx) : Prop :=
 match ro with
 | none => True
 | some l => some l ∉ c.m /\ ∃ r, w.heap[l]? = some (.loop r)
theorem RecOK.ext {p : Nat} {ro : Option Nat} {w w' : World} {c c' : Cx} (h : RecOK ro w c) (x : ExtP p w c w' c') : RecOK ro w' c' := by
 cases ro with
 | none => trivial
 | some l =>
  obtain ⟨h1, r, h2⟩ := h;have hlt : l < w.heap.size := (kT.1 h2).1;exact ⟨fun h => (x.new l h).elim h1 fun h' => absurd hlt (lE.2 h'), r, (x.blocks l hlt h1).trans h2⟩
def TAW (P : Program) (x : Code) (σ : TS) (Q : Exit -> TS -> Prop) : Prop :=
 ∀ c a w (Q' : Exit -> Act -> World -> Prop), RelT w c σ a -> σ.wf ->
  (∀ e c' a' w' σ', Q e σ' -> σ'.wf -> RelT w' c' σ' a' -> ExtP σ.p w c w' c' -> Mk w w' c' a.defers a'.defers -> Q' e a' w') -> ∀ ro, RecOK ro w c -> x.wpIn (Wd ro) 0 P Q' a w
variable {x : Code}
theorem TAW.mono {Q R : Exit -> TS -> Prop} (h : TAW P x σ Q) (hq : ∀ e σ, Q e σ -> R e σ) : TAW P x σ R :=
 fun c a w Q' hr hw hK => h c a w Q' hr hw fun e c' a' w' σ' hQ => hK e c' a' w' σ' (hq _ _ hQ)
theorem TAW.wk {σ σ2 : TS} {Q : Exit -> TS -> Prop} (hk : Wk σ σ2) (h : TAW P x σ2 Q) : TAW P x σ Q := by
 intro c a w Q' hr hw hK ro hro;obtain ⟨c2, hr2, hx⟩ := hk.2 w c a hr;have h0 := hx w c (ExtP.refl _ _ _);exact h c2 a w Q' hr2 hk.1 (fun e c' a' w' σ' hQ hw' hr' hx' hd => hK e c' a' w' σ' hQ hw' hr' (hr.andX hr2 h0 hx') hd) ro (hro.ext h0)
def zve (N : TS -> Prop) (Q : Exit -> TS -> Prop) : Exit -> TS -> Prop
 | .normal, σ => N σ
 | e, σ => Q e σ
theorem TAW.seq {P : Program} {x y : Code} {σ : TS} {Q : Exit -> TS -> Prop} (h : TAW P x σ (zve (fun σ' => TAW P y σ' Q) Q)) : TAW P (.seq x y) σ Q := by
 intro c a w Q' hr hw hK ro hro;refine wpIn_seq (h c a w _ hr hw (fun e c' a' w' σ' hQ hw' hr' hx hd => ?_) ro hro)
 cases e <;> first | exact hK _ c' a' w' σ' hQ hw' hr' hx hd | skip
 exact hQ c' a' w' _ hr' hw' (fun e2 c2 a2 w2 σ2 hQ2 hw2 hr2 hx2 hd2 => hK e2 c2 a2 w2 σ2 hQ2 hw2 hr2 (hr.andX hr' hx hx2) (hd.trans hx.size hx2 hd2)) ro (hro.ext hx)
def zlx (id : Nat) (Q : Exit -> TS -> Prop) : Exit -> TS -> Prop
 | .exit id', σ => bif kC id' id then Q .normal σ else Q (.exit id') σ
 | e, σ => Q e σ
theorem TAW.block {P : Program} {id : Nat} {x : Code} {σ : TS} {Q : Exit -> TS -> Prop} (h : TAW P x σ (zlx id Q)) : TAW P (.block id x) σ Q := by
 intro c a w Q' hr hw hK ro hro;refine wpIn_block (h c a w _ hr hw (fun e c' a' w' σ' hQ hw' hr' hx hd => ?_) ro hro)
 cases e with
 | exit id' =>
  simp only [zlx] at hQ;simp only [Exit.inBlock];split
  ·rename_i e;have : kC id' id = true := by rw [e]; exact Nat.beq_refl id
   rw [this] at hQ; exact hK _ c' a' w' σ' hQ hw' hr' hx hd
  ·rename_i e;have : kC id' id = false := by
    cases hb : kC id' id with
    | false => rfl
    | true => exact absurd (kB hb) e
   rw [this] at hQ; exact hK _ c' a' w' σ' hQ hw' hr' hx hd
 | _ => exact hK _ c' a' w' σ' hQ hw' hr' hx hd
def zvu (Q : Exit -> TS -> Prop) : Exit -> TS -> Prop
 | .goto _, _ => False
 | e, σ => Q e σ
theorem TAW.scope {P : Program} {x : Code} {σ : TS} {Q : Exit -> TS -> Prop} (h : TAW P x σ (zvu Q)) : TAW P (.scope x) σ Q := by
 intro c a w Q' hr hw hK ro hro;refine zpd (h c a w _ hr hw (fun e c' a' w' σ' hQ hw' hr' hx hd => ?_) ro hro)
 cases e <;> first | exact hQ.elim | exact hK _ c' a' w' σ' hQ hw' hr' hx hd
theorem TAW.cond {P : Program} {x : Operand} {t e : Code} {σ : TS} {Q : Exit -> TS -> Prop} {b : Bool} (hc : σ.eval x = .v .bool b) (h : TAW P (if b then t else e) σ Q) : TAW P (.cond x t e) σ Q := by
 intro c a w Q' hr hw hK ro hro;have he := hr.2.2.eval x;rw [zb hc (by simp)] at he
 simp only [TV.pv, pvU, VR] at he;exact wpIn_cond he.1 (h c a w Q' hr hw hK ro hro)
theorem TAW.region {R : Type} {P : Program} {V : Env} (hV : EnvsOK P V) {own : List Nat} {id : Nat} {ops : Array Oper} {σ : TS} {k : TS -> Option R} {r : R} (hcm : z8m ops.toList = true) (h : zf0 P V own ops ops.toList 0 σ k = some r) :
  TAW P (.region id ops false) σ (fun e σ' => e = .normal /\ k σ' = some r) := by
 intro c a w Q' hr hw hK ro _;refine wpIn_mono (Q := fun e a w => e = .normal /\ Q' e a w) (wpIn_region (zgc hcm zqg _ _ _ ?_)) fun _ _ _ h => h.2
 have := (z4j hV ops.toList 0 (by simp) hw h).2 (Q' := fun e a w => e = .normal /\ Q' e a w) hr fun c' a' w' σ' hk hw' hr' hx hd => ⟨rfl, hK .normal c' a' w' σ' ⟨rfl, hk⟩ hw' hr' hx (.of_eq hd)⟩
 rw [List.range_eq_range'];simpa using this
theorem TAW.draw (hV : EnvsOK P V) {own ps : List Nat} {id : Nat} {ops : Array Oper} {k : TS -> Option R} {r : R} (hcm : z8m ops.toList = true) (hm : P.follows .mixedOrders = true) (hok : z2e ops ps 0 = true)
  (hdn : ops.toList.all (fun o => o.dst.all (fun d => decide (d < σ.n))) = true) (h : vG P V own ops k ps 0 σ = some r) :
  TAW P (.region id ops true) σ (fun e σ' => e = .normal /\ k σ' = some r) := by
 intro c a w Q' hr hw hK ro _;have hx0 := z1p hr.2.1 (w.drawn + 1);have hr0 : RelT { w with drawn := w.drawn + 1 } c σ a := ⟨hr.1, hx0.1, hr.2.2.ext hx0.2⟩;refine wpIn_mono (Q := fun e a w => e = .normal /\ Q' e a w) (wpIn_region_any hm (zfc hcm zqg _ _ _ _ ?_)) fun _ _ _ h => h.2
 refine zny hV (n := σ.n) (fun o ho => kV.1 hdn o ho) ps 0 (c := c) ops.size _ rfl hok h hw hr0 (by simp) ?_ ?_ ?_ fun c' a' w' σ' hk hw' hr' hx hd => ⟨rfl, hK .normal c' a' w' σ' ⟨rfl, hk⟩ hw' hr' (hr.andX hr0 (z84 hr.noT hx0.2) hx) (.of_eq hd)⟩
 ·intro j hj;simp only [Array.getD_eq_getD_getElem?, Array.getElem?_replicate, hj, if_true, kx]; simp
 ·intro j o e hD;simp only [Array.getD_eq_getD_getElem?, Array.getElem?_replicate] at hD;split at hD <;> simp at hD
 ·unfold left;refine lC (List.length_filter_le _ _) ?_;simp
theorem TAW.skip {P : Program} {σ : TS} {Q : Exit -> TS -> Prop} (h : Q .normal σ) : TAW P .skip σ Q :=
 fun c a w _ hr hw hK ro _ => wpIn_skip (hK .normal c a w σ h hw hr (ExtP.refl _ _ _) (.of_eq rfl))
theorem TAW.label {P : Program} {l : Nat} {σ : TS} {Q : Exit -> TS -> Prop} (h : Q .normal σ) : TAW P (.label l) σ Q :=
 fun c a w _ hr hw hK ro _ => wpIn_label (hK .normal c a w σ h hw hr (ExtP.refl _ _ _) (.of_eq rfl))
theorem TAW.ret {P : Program} {σ : TS} {Q : Exit -> TS -> Prop} (h : Q .ret σ) : TAW P .ret σ Q :=
 fun c a w _ hr hw hK ro _ => wpIn_ret (hK .ret c a w σ h hw hr (ExtP.refl _ _ _) (.of_eq rfl))
theorem TAW.exit {P : Program} {id : Nat} {σ : TS} {Q : Exit -> TS -> Prop} (h : Q (.exit id) σ) : TAW P (.exit id) σ Q :=
 fun c a w _ hr hw hK ro _ => wpIn_exit (hK (.exit id) c a w σ h hw hr (ExtP.refl _ _ _) (.of_eq rfl))
def TLoop (P : Program) (x : Code) (σ : TS) (Q : Exit -> TS -> Prop) : Prop :=
 ∀ c a w (Q' : Exit -> Act -> World -> Prop), RelT w c σ a -> σ.wf ->
  (∀ e c' a' w' σ', Q e σ' -> σ'.wf -> RelT w' c' σ' a' -> ExtP σ.p w c w' c' -> Mk w w' c' a.defers a'.defers -> Q' e a' w') ->
  ∀ (ro : Option Nat), RecOK ro w c -> ∀ (b : Frame) (k : List Go.Item) (cs : List Frame), b.roundOf = ro -> ∃ e a2 w2, Q' e a2 w2 /\ ArrivesIn (Machine.fenced P (Wd ro)) P (lone (b.atR a (.code x :: .inLoop x :: k)) cs w) b k cs e a2 w2
theorem TLoop.step {Q : Exit -> TS -> Prop} (h : TAW P x σ (zve (fun σ' => TLoop P x σ' Q) Q)) : TLoop P x σ Q := by
 intro c a w Q' hrel hw hK ro hrec b k cs hro;obtain ⟨e, a1, w1, hq, harr⟩ := h c a w
  (Exit.then (fun a2 w2 => ∃ σ2 c2, TLoop P x σ2 Q /\ σ2.wf /\ RelT w2 c2 σ2 a2 /\ ExtP σ.p w c w2 c2 /\ Mk w w2 c2 a.defers a2.defers) Q') hrel hw (fun e c2 a2 w2 σ2 hQ hw2 hr2 hx2 hd2 => by
  cases e with
  | normal => exact ⟨σ2, c2, hQ, hw2, hr2, hx2, hd2⟩
  | exit id => exact hK _ c2 a2 w2 σ2 hQ hw2 hr2 hx2 hd2
  | goto l => exact hK _ c2 a2 w2 σ2 hQ hw2 hr2 hx2 hd2
  | ret => exact hK _ c2 a2 w2 σ2 hQ hw2 hr2 hx2 hd2
  | panic ch => exact hK _ c2 a2 w2 σ2 hQ hw2 hr2 hx2 hd2
  | outgrown => exact hK _ c2 a2 w2 σ2 hQ hw2 hr2 hx2 hd2) ro hrec b (.inLoop x :: k) cs hro trivial (zne _ _)
 cases e with
 | normal =>
  obtain ⟨σ2, c2, hL, hw2, hr2, hx2, hd2⟩ := hq;obtain ⟨e2, a2, w2, hq2, harr2⟩ := hL c2 a1 w1 Q' hr2 hw2 (fun e c3 a3 w3 σ3 hQ hw3 hr3 hx3 hd3 => hK e c3 a3 w3 σ3 hQ hw3 hr3 (hrel.andX hr2 hx2 hx3) (hd2.trans hx2.size hx3 hd3)) ro (hrec.ext hx2) b k cs hro
  have h1 : StepsIn (Machine.fenced P (Wd ro)) P (lone (b.atR a (.code x :: .inLoop x :: k)) cs w) (lone (b.atR a1 (.inLoop x :: k)) cs w1) := harr;have h2 : StepsIn (Machine.fenced P (Wd ro)) P (lone (b.atR a1 (.inLoop x :: k)) cs w1) (lone (b.atR a1 (.code x :: .inLoop x :: k)) cs w1) := .one (jr ro P _) stepR_inLoop;exact ⟨e2, a2, w2, hq2, .of_steps (h1.trans h2) harr2⟩
 | exit id => exact ⟨_, a1, w1, hq, .pass (x := .inLoop x) rfl (fun _ _ => .inl (by simp)) harr⟩
 | goto l => exact ⟨_, a1, w1, hq, .pass (x := .inLoop x) rfl (fun _ _ => .inl (by simp)) harr⟩
 | ret => exact ⟨_, a1, w1, hq, .pass (x := .inLoop x) rfl (fun _ _ => .inl (by simp)) harr⟩
 | panic ch => exact ⟨_, a1, w1, hq, .pass (x := .inLoop x) rfl (fun _ _ => .inl (by simp)) harr⟩
 | outgrown => exact ⟨_, a1, w1, hq, .pass (x := .inLoop x) rfl (fun _ _ => .inl (by simp)) harr⟩
theorem TLoop.wk {σ σ2 : TS} {Q : Exit -> TS -> Prop} (hk : Wk σ σ2) (h : TLoop P x σ2 Q) : TLoop P x σ Q := by
 intro c a w Q' hr hw hK ro hro;obtain ⟨c2, hr2, hx⟩ := hk.2 w c a hr;have h0 := hx w c (ExtP.refl _ _ _);exact h c2 a w Q' hr2 hk.1 (fun e c' a' w' σ' hQ hw' hr' hx' hd => hK e c' a' w' σ' hQ hw' hr' (hr.andX hr2 h0 hx') hd) ro (hro.ext h0)
theorem TLoop.loop {P : Program} {x : Code} {σ : TS} {Q : Exit -> TS -> Prop} (h : TLoop P x σ Q) : TAW P (.loop x) σ Q := by
 intro c a w Q' hrel hw hK ro hrec b k cs hro _ _;obtain ⟨e, a2, w2, hq, harr⟩ := h c a w Q' hrel hw hK ro hrec b k cs hro;exact ⟨e, a2, w2, hq, .of_steps (.one (jr ro P _) stepR_loop) harr⟩
def iter {S X : Type} (F : S -> Option (S ⊕ X)) : Nat -> S -> Option X
 | 0, _ => none
 | n + 1, s => (F s).bind (Sum.elim (iter F n) some)
theorem zcd {S X : Type} {F : S -> Option (S ⊕ X)} : ∀ {n m : Nat} {s : S} {x : X}, iter F n s = some x -> n <= m -> iter F m s = some x
 | 0, _, _, _, h, _ => by cases h
 | n + 1, 0, _, _, _, h => by omega
 | n + 1, m + 1, s, x, h, hm => by
  simp only [iter] at h ⊢;rw [kF] at h ⊢;obtain ⟨y, h1, h2⟩ := h;refine ⟨y, h1, ?_⟩;cases y with
  | inl s' => exact zcd h2 (by omega)
  | inr z => exact h2
open Classical in
noncomputable def zn {S X : Type} (F : S -> Option (S ⊕ X)) (s : S) : Option X :=
 if h : ∃ n x, iter F n s = some x then some h.choose_spec.choose else none
theorem z5b {S X : Type} {F : S -> Option (S ⊕ X)} {s : S} {x : X} : zn F s = some x ↔ ∃ n, iter F n s = some x := by
 unfold zn;constructor
 ·intro h;split at h
  ·rename_i hx;cases h;exact ⟨hx.choose, hx.choose_spec.choose_spec⟩
  ·cases h
 ·rintro ⟨n, h⟩;have hx : ∃ n x, iter F n s = some x := ⟨n, x, h⟩;rw [dif_pos hx];have h2 := hx.choose_spec.choose_spec;have a := zcd h (Nat.le_max_left n hx.choose);have b := zcd h2 (Nat.le_max_right n hx.choose);rw [a] at b;exact b.symm
theorem qF {S X : Type} (F : S -> Option (S ⊕ X)) (s : S) : zn F s = (F s).bind (Sum.elim (zn F) some) := by
 apply Option.ext;intro x;rw [z5b];constructor
 ·rintro ⟨n, h⟩;cases n with
  | zero => cases h
  | succ n =>
   simp only [iter] at h;rw [kF] at h ⊢;obtain ⟨y, h1, h2⟩ := h;refine ⟨y, h1, ?_⟩;cases y with
   | inl s' => exact z5b.2 ⟨n, h2⟩
   | inr z => exact h2
 ·intro h;rw [kF] at h;obtain ⟨y, h1, h2⟩ := h;cases y with
  | inl s' =>
   obtain ⟨n, hn⟩ := z5b.1 h2;exact ⟨n + 1, by simp only [iter]; rw [h1]; exact hn⟩
  | inr z => exact ⟨1, by simp only [iter]; rw [h1]; exact h2⟩
def Den : Type 1 := {R : Type} -> TS -> (Exit -> TS -> Option R) -> Option R
structure SoundD (P : Program) (x : Code) (d : Den) : Prop where
 taw : ∀ (R : Type) (σ : TS) (k : Exit -> TS -> Option R) (r : R), d σ k = some r -> TAW P x σ (fun e σ' => k e σ' = some r)
 wf : ∀ (R : Type) (σ : TS) (k : Exit -> TS -> Option R) (r : R), σ.wf -> d σ k = some r -> ∃ e σ', σ'.wf /\ k e σ' = some r
inductive HT : Type 1 where
 | no
 | two (a b : HT)
 | join (X : TS -> XS) (a b : HT)
 | over (d : {R : Type} -> TS -> (Exit -> TS -> Option R) -> Option R)
 | run (n : Nat)
 | reg (own ps : List Nat)
def HT.l : HT -> HT
 | .two a _ | .join _ a _ => a
 | .run n => .run n
 | _ => .no
def HT.r : HT -> HT
 | .two _ b | .join _ _ b => b
 | .run n => .run n
 | _ => .no
def HT.own : HT -> List Nat
 | .reg own _ => own
 | _ => []
def HT.ps : HT -> Nat -> List Nat
 | .reg _ ps, _ => ps
 | _, 0 => []
 | _, n => [n]
def z6q (d : {R : Type} -> TS -> (Exit -> TS -> Option R) -> Option R) : Nat -> {R : Type} -> TS -> (Exit -> TS -> Option R) -> Option R
 | 0, _, _, _ => none
 | n + 1, _, σ, k => d σ fun e σ' => match e with
  | .normal => z6q d n (σ'.keep (List.range σ'.n)) k
  | e => k e σ'
noncomputable def zt (P : Program) (V : Env) : Code -> HT -> {R : Type} -> TS -> (Exit -> TS -> Option R) -> Option R
 | .seq a b, h, _, σ, k => match h with
  | .join X ha hb => (zt P V a ha σ (fun e σ' => (X σ).close e σ' some)).bind fun x => (X σ).open' x fun e σ' => match e with
   | .normal => zt P V b hb σ' k
   | e => k e σ'
  | .over d => d σ k
  | h => zt P V a h.l σ fun e σ' => match e with
   | .normal => zt P V b h.r σ' k
   | e => k e σ'
 | .region _ ops draw, h, _, σ, k => bif z8m ops.toList then match draw with
  | false => zf0 P V h.own ops ops.toList 0 σ fun σ' => k .normal σ'
  | true => bif P.follows .mixedOrders && z2e ops (h.ps ops.size) 0 && ops.toList.all (fun o => o.dst.all (fun d => decide (d < σ.n))) then vG P V h.own ops (fun σ' => k .normal σ') (h.ps ops.size) 0 σ else none
  else none
 | .skip, _, _, σ, k => k .normal σ
 | .label _, _, _, σ, k => k .normal σ
 | .ret, _, _, σ, k => k .ret σ
 | .exit id, _, _, σ, k => k (.exit id) σ
 | .cond x t e, h, _, σ, k => match σ.eval x with
  | .v .bool b => cond b (zt P V t h.l σ k) (zt P V e h.r σ k)
  | _ => none
 | .block id x, h, _, σ, k => zt P V x h σ fun e σ' => match e with
  | .exit id' => bif kC id' id then k .normal σ' else k (.exit id') σ'
  | e => k e σ'
 | .scope x, h, _, σ, k => zt P V x h σ fun e σ' => match e with
  | .goto _ => none
  | e => k e σ'
 | .loop x, h, _, σ, k => match h with
  | .over d => d σ k
  | .run n => z6q (fun σ k => zt P V x (.run n) σ k) n σ k
  | _ => none
 | .rangeFunc _ _ _ _, h, _, σ, k => match h with
  | .over d => d σ k
  | _ => none
 | _, _, _, _, _ => none
def HOK (P : Program) : Code -> HT -> Prop
 | .seq a b, h => match h with
  | .join X ha hb => (∀ σ, (X σ).OK) /\ HOK P a ha /\ HOK P b hb
  | .over d => SoundD P (.seq a b) d
  | h => HOK P a h.l /\ HOK P b h.r
 | .cond _ t e, h => HOK P t h.l /\ HOK P e h.r
 | .block _ x, h => HOK P x h
 | .scope x, h => HOK P x h
 | .loop x, h => match h with
  | .over d => SoundD P (.loop x) d
  | .run n => HOK P x (.run n)
  | _ => True
 | .rangeFunc g ps x y, h => match h with
  | .over d => SoundD P (.rangeFunc g ps x y) d
  | _ => True
 | _, _ => True
theorem jv (P : Program) (n : Nat) : ∀ x : Code, HOK P x (.run n)
 | .seq a b => ⟨jv P n a, jv P n b⟩
 | .cond _ t e => ⟨jv P n t, jv P n e⟩
 | .block _ x => jv P n x
 | .scope x => jv P n x
 | .loop x => jv P n x
 | .region _ _ _ | .skip | .label _ | .ret | .exit _ | .rangeFunc _ _ _ _ | .goto _ | .refuse _ => trivial
theorem vg (P : Program) : ∀ x : Code, HOK P x .no
 | .seq a b => ⟨vg P a, vg P b⟩
 | .cond _ t e => ⟨vg P t, vg P e⟩
 | .block _ x => vg P x
 | .scope x => vg P x
 | .loop _ => trivial
 | .region _ _ _ | .skip | .label _ | .ret | .exit _ | .rangeFunc _ _ _ _ | .goto _ | .refuse _ => trivial
theorem z83 (hV : EnvsOK P V) : ∀ (x : Code) (h : HT) {R : Type} {σ : TS} {k : Exit -> TS -> Option R} {r : R}, HOK P x h -> zt P V x h σ k = some r -> TAW P x σ (fun e σ' => k e σ' = some r) := by
 intro x
 induction x with
 | skip => intro h R σ k r _ hh; simp only [zt] at hh; exact TAW.skip hh
 | label l => intro h R σ k r _ hh; simp only [zt] at hh; exact TAW.label hh
 | ret => intro h R σ k r _ hh; simp only [zt] at hh; exact TAW.ret hh
 | exit id => intro h R σ k r _ hh; simp only [zt] at hh; exact TAW.exit hh
 | region id ops draw =>
  intro h R σ k r _ hh;simp only [zt] at hh;cases hcm : z8m ops.toList with
  | false => rw [hcm] at hh; cases hh
  | true =>
  rw [hcm, cond_true] at hh;cases draw with
  | false => exact (TAW.region hV hcm hh).mono fun e σ' ⟨h1, h2⟩ => by rw [h1]; exact h2
  | true =>
   simp only at hh;cases hc : P.follows .mixedOrders && z2e ops (h.ps ops.size) 0 && ops.toList.all (fun o => o.dst.all (fun d => decide (d < σ.n))) with
   | false => rw [hc] at hh; cases hh
   | true =>
    rw [hc] at hh;simp only [kD] at hc;exact (TAW.draw hV hcm hc.1.1 hc.1.2 hc.2 hh).mono fun e σ' ⟨h1, h2⟩ => by rw [h1]; exact h2
 | seq a b iha ihb =>
  intro h R σ k r hok hh;have vl : ∀ ha hb : HT, HOK P a ha -> HOK P b hb -> (zt P V a ha σ fun e σ' => match e with | .normal => zt P V b hb σ' k | e => k e σ') = some r -> TAW P (.seq a b) σ (fun e σ' => k e σ' = some r) := by
   intro ha hb h1 h2 hh;refine TAW.seq ((iha ha h1 hh).mono fun e σ' he => ?_)
   cases e <;> first | exact he | skip
   exact ihb hb h2 he
  cases h with
  | no => simp only [zt] at hh; exact vl _ _ hok.1 hok.2 hh
  | run n => simp only [zt] at hh; exact vl _ _ hok.1 hok.2 hh
  | two ha hb => simp only [zt] at hh; exact vl _ _ hok.1 hok.2 hh
  | reg o q => simp only [zt] at hh; exact vl _ _ hok.1 hok.2 hh
  | over d => simp only [zt] at hh; exact hok.taw R σ k r hh
  | join X ha hb =>
   simp only [zt] at hh;obtain ⟨hX, h1, h2⟩ := hok;rw [kF] at hh;obtain ⟨x, hx, hh⟩ := hh;rw [(hX σ).open'] at hh;have h3 := iha ha h1 hx;refine TAW.seq ?_;intro c a' w Q' hr hw hK;refine h3 c a' w Q' hr hw fun e c' a2 w' σ' he hw' hr' hxt hd => ?_
   obtain ⟨x', g1, g2, g3⟩ := (hX σ).close (X σ).T e σ' some x hw' he;cases g1;obtain ⟨c2, hr2, hx2⟩ := g3.2 w' c' a2 hr';have hx2' := hx2;rw [hr.p hr' hxt] at hx2';refine hK e c2 a2 w' ((X σ).at' x).2 ?_ g3.1 hr2 (hx2' _ _ hxt) (hd.ext (hx2 _ _ (ExtP.refl _ _ _)));rw [g2] at hh;cases e <;> first | exact hh | skip
   exact ihb hb h2 hh
 | cond x t e iht ihe =>
  intro h R σ k r hok hh;simp only [zt] at hh;split at hh
  ·rename_i b hb;refine TAW.cond hb ?_;cases b with
   | true => exact iht _ hok.1 hh
   | false => exact ihe _ hok.2 hh
  ·cases hh
 | block id x ih =>
  intro h R σ k r hok hh;simp only [zt] at hh;refine TAW.block ((ih h hok hh).mono fun e σ' he => ?_)
  cases e with
  | exit id' =>
   simp only [zlx];simp only at he;cases hb : kC id' id with
   | true => rw [hb] at he; exact he
   | false => rw [hb] at he; exact he
  | _ => exact he
 | scope x ih =>
  intro h R σ k r hok hh;simp only [zt] at hh;refine TAW.scope ((ih h hok hh).mono fun e σ' he => ?_)
  cases e <;> first | exact he | cases he
 | loop x ih =>
  intro h R σ k r hok hh;cases h with
  | over d => simp only [zt] at hh; exact hok.taw R σ k r hh
  | run n =>
   simp only [zt] at hh;refine TLoop.loop ?_;have key : ∀ (m : Nat) (σ : TS), z6q (fun σ k => zt P V x (.run n) σ k) m σ k = some r -> TLoop P x σ (fun e σ' => k e σ' = some r) := by
    intro m
    induction m with
    | zero => intro σ h; cases h
    | succ m ihm =>
     intro σ h;simp only [z6q] at h;refine TLoop.step ((ih (.run n) hok h).mono fun e σ' he => ?_)
     cases e <;> first | exact he | skip
     intro c a w Q' hr hw hK;refine ihm _ he c a w Q' ?_ (zhe hw _) hK;refine ⟨hr.1, ?_⟩;rw [zc8];exact hr.2.keep _
   exact key n σ hh
  | _ => simp [zt] at hh
 | rangeFunc g ps x y _ _ =>
  intro h R σ k r hok hh;cases h with
  | over d => simp only [zt] at hh; exact hok.taw R σ k r hh
  | _ => simp [zt] at hh
 | _ => intro h R σ k r hok hh; simp [zt] at hh
theorem zkg (hV : EnvsOK P V) : ∀ (x : Code) (h : HT) {R : Type} {σ : TS} {k : Exit -> TS -> Option R} {r : R}, HOK P x h -> σ.wf -> zt P V x h σ k = some r -> ∃ e σ', σ'.wf /\ k e σ' = some r := by
 intro x
 induction x with
 | skip => intro h R σ k r _ hw hh; simp only [zt] at hh; exact ⟨_, σ, hw, hh⟩
 | label l => intro h R σ k r _ hw hh; simp only [zt] at hh; exact ⟨_, σ, hw, hh⟩
 | ret => intro h R σ k r _ hw hh; simp only [zt] at hh; exact ⟨_, σ, hw, hh⟩
 | exit id => intro h R σ k r _ hw hh; simp only [zt] at hh; exact ⟨_, σ, hw, hh⟩
 | region id ops draw =>
  intro h R σ k r _ hw hh;simp only [zt] at hh;cases hcm : z8m ops.toList with
  | false => rw [hcm] at hh; cases hh
  | true =>
  rw [hcm, cond_true] at hh;cases draw with
  | false => obtain ⟨σ', h1, h2⟩ := (z4j hV _ 0 (by simp) hw hh).1; exact ⟨_, σ', h1, h2⟩
  | true =>
   simp only at hh;cases hc : P.follows .mixedOrders && z2e ops (h.ps ops.size) 0 && ops.toList.all (fun o => o.dst.all (fun d => decide (d < σ.n))) with
   | false => rw [hc] at hh; cases hh
   | true =>
    rw [hc] at hh;obtain ⟨σ', h1, h2⟩ := zs0 hV _ _ hw hh;exact ⟨_, σ', h1, h2⟩
 | seq a b iha ihb =>
  intro h R σ k r hok hw hh;have vl : ∀ ha hb : HT, HOK P a ha -> HOK P b hb -> (zt P V a ha σ fun e σ' => match e with | .normal => zt P V b hb σ' k | e => k e σ') = some r -> ∃ e σ', σ'.wf /\ k e σ' = some r := by
   intro ha hb h1 h2 hh;obtain ⟨e, σ', hw', he⟩ := iha ha h1 hw hh;cases e <;> first | exact ⟨_, σ', hw', he⟩ | skip
   exact ihb hb h2 hw' he
  cases h with
  | no => simp only [zt] at hh; exact vl _ _ hok.1 hok.2 hh
  | run n => simp only [zt] at hh; exact vl _ _ hok.1 hok.2 hh
  | two ha hb => simp only [zt] at hh; exact vl _ _ hok.1 hok.2 hh
  | reg o q => simp only [zt] at hh; exact vl _ _ hok.1 hok.2 hh
  | over d => simp only [zt] at hh; exact hok.wf R σ k r hw hh
  | join X ha hb =>
   simp only [zt] at hh;obtain ⟨hX, h1, h2⟩ := hok;rw [kF] at hh;obtain ⟨x, hx, hh⟩ := hh;rw [(hX σ).open'] at hh;obtain ⟨e, σ', hw', he⟩ := iha ha h1 hw hx;obtain ⟨x', g1, g2, g3⟩ := (hX σ).close (X σ).T e σ' some x hw' he;cases g1;rw [g2] at hh;cases e <;> first | exact ⟨_, _, g3.1, hh⟩ | skip
   exact ihb hb h2 g3.1 hh
 | cond x t e iht ihe =>
  intro h R σ k r hok hw hh;simp only [zt] at hh;split at hh
  ·rename_i b hb;cases b with
   | true => exact iht _ hok.1 hw hh
   | false => exact ihe _ hok.2 hw hh
  ·cases hh
 | block id x ih =>
  intro h R σ k r hok hw hh;simp only [zt] at hh;obtain ⟨e, σ', hw', he⟩ := ih h hok hw hh;cases e with
  | exit id' =>
   simp only at he;cases hb : kC id' id with
   | true => rw [hb] at he; exact ⟨_, σ', hw', he⟩
   | false => rw [hb] at he; exact ⟨_, σ', hw', he⟩
  | _ => exact ⟨_, σ', hw', he⟩
 | scope x ih =>
  intro h R σ k r hok hw hh;simp only [zt] at hh;obtain ⟨e, σ', h1, h2⟩ := ih h hok hw hh;cases e <;> first | exact ⟨_, σ', h1, h2⟩ | cases h2
 | loop x ih =>
  intro h R σ k r hok hw hh;cases h with
  | over d => simp only [zt] at hh; exact hok.wf R σ k r hw hh
  | run n =>
   simp only [zt] at hh;have key : ∀ (m : Nat) (σ : TS), σ.wf -> z6q (fun σ k => zt P V x (.run n) σ k) m σ k = some r -> ∃ e σ', σ'.wf /\ k e σ' = some r := by
    intro m
    induction m with
    | zero => intro σ _ h; cases h
    | succ m ihm =>
     intro σ hw h;simp only [z6q] at h;obtain ⟨e, σ', hw', he⟩ := ih (.run n) hok hw h;cases e <;> first | exact ⟨_, σ', hw', he⟩ | skip
     exact ihm _ (zhe hw' _) he
   exact key n σ hw hh
  | _ => simp [zt] at hh
 | rangeFunc g ps x y _ _ =>
  intro h R σ k r hok hw hh;cases h with
  | over d => simp only [zt] at hh; exact hok.wf R σ k r hw hh
  | _ => simp [zt] at hh
 | _ => intro h R σ k r hok hw hh; simp [zt] at hh
inductive Obl : Type 1 where
 | den (x : Code) (d : {R : Type} -> TS -> (Exit -> TS -> Option R) -> Option R)
 | xs (X : TS -> XS)
def Obl.OK (P : Program) : Obl -> Prop
 | .den x d => SoundD P x d
 | .xs X => ∀ σ, (X σ).OK
def obl : Code -> HT -> List Obl
 | .seq a b, h => match h with
  | .join X ha hb => .xs X :: (obl a ha ++ obl b hb)
  | .over d => [.den (.seq a b) d]
  | .no => []
  | .run _ => []
  | .two ha hb => obl a ha ++ obl b hb
  | .reg _ _ => []
 | .cond _ t e, h => match h with
  | .no => []
  | .run _ => []
  | h => obl t h.l ++ obl e h.r
 | .block _ x, h => match h with
  | .no => []
  | .run _ => []
  | h => obl x h
 | .scope x, h => match h with
  | .no => []
  | .run _ => []
  | h => obl x h
 | .loop x, h => match h with
  | .over d => [.den (.loop x) d]
  | _ => []
 | .rangeFunc g ps x y, h => match h with
  | .over d => [.den (.rangeFunc g ps x y) d]
  | _ => []
 | _, _ => []
def zbp (P : Program) : List Obl -> Prop
 | [] => True
 | o :: l => o.OK P /\ zbp P l
theorem zfa {P : Program} : ∀ {l : List Obl}, zbp P l ↔ ∀ o, o ∈ l -> o.OK P
 | [] => by simp [zbp]
 | o :: l => by simp [zbp, zfa (l := l)]
theorem zu4 : ∀ (x : Code) (h : HT), (∀ o, o ∈ obl x h -> o.OK P) -> HOK P x h := by
 intro x
 induction x with
 | seq a b iha ihb =>
  intro h ho;cases h with
  | no => exact ⟨vg P a, vg P b⟩
  | run n => exact ⟨jv P n a, jv P n b⟩
  | two ha hb => exact ⟨iha _ fun o h => ho o (k9 _ h), ihb _ fun o h => ho o (kq _ h)⟩
  | reg _ _ => exact ⟨vg P a, vg P b⟩
  | over d => exact ho _ (kK.2 rfl)
  | join X ha hb => exact ⟨ho (.xs X) (List.mem_cons_self ..), iha _ fun o h => ho o (List.mem_cons_of_mem _ (k9 _ h)), ihb _ fun o h => ho o (List.mem_cons_of_mem _ (kq _ h))⟩
 | cond x t e iht ihe =>
  intro h ho;cases h with
  | no => exact ⟨vg P t, vg P e⟩
  | run n => exact ⟨jv P n t, jv P n e⟩
  | _ => exact ⟨iht _ fun o h => ho o (k9 _ h), ihe _ fun o h => ho o (kq _ h)⟩
 | block id x ih =>
  intro h ho;cases h with
  | no => exact vg P x
  | run n => exact jv P n x
  | _ => exact ih _ ho
 | scope x ih =>
  intro h ho;cases h with
  | no => exact vg P x
  | run n => exact jv P n x
  | _ => exact ih _ ho
 | loop x ih =>
  intro h ho;cases h with
  | over d => exact ho _ (kK.2 rfl)
  | run n => exact jv P n x
  | _ => trivial
 | rangeFunc g ps x y _ _ =>
  intro h ho;cases h with
  | over d => exact ho _ (kK.2 rfl)
  | _ => trivial
 | _ => intro h _; trivial
theorem yB {h : HT} (l : List Obl) (hl : obl x h = l) (ho : zbp P l) : HOK P x h := zu4 x h (by rw [hl]; exact zfa.1 ho)
def yy (S : XE) (X : XS) (f : S.T -> Option X.T) : {R : Type} -> TS -> (Exit -> TS -> Option R) -> Option R := fun σ k => S.close σ fun s => (f s).bind fun x => X.open' x k
noncomputable def zvb (P : Program) (V : Env) (x : Code) (h : HT) (S : XE) (X : XS) (s : S.T) : Option (S.T ⊕ X.T) :=
 zt P V x h (S.st s) fun e σ' => match e with
  | .normal => S.close σ' fun s' => some (.inl s')
  | e => X.close e σ' fun x => some (.inr x)
theorem qz (hV : EnvsOK P V) {h : HT} {S : XE} {X : XS} (hok : HOK P x h) (hS : S.OK) (hX : X.OK) (g : S.T -> Option (S.T ⊕ X.T)) (hg : ∀ s, zvb P V x h S X s = g s) :
  SoundD P (.loop x) (yy S X (zn g)) := by
 refine ⟨?taw, ?wf⟩
 case wf =>
  intro R σ k r hw hh;simp only [yy] at hh;obtain ⟨s, h1, h2⟩ := hS R σ _ r hw hh;rw [kF] at h1;obtain ⟨xx, h3, h4⟩ := h1;obtain ⟨n, hn⟩ := z5b.1 h3;have key : ∀ (n : Nat) (s : S.T) (xx : X.T), (S.st s).wf -> iter g n s = some xx -> (X.at' xx).2.wf := by
   intro n
   induction n with
   | zero => intro s xx _ h; cases h
   | succ n ih =>
    intro s xx hws hi;simp only [iter] at hi;rw [kF] at hi;obtain ⟨y, hy, hi⟩ := hi;rw [<- hg] at hy;obtain ⟨e, σ', hw', he⟩ := zkg hV x h hok hws hy;have fin : (X.close e σ' fun x => some (Sum.inr x)) = some y -> (X.at' xx).2.wf := fun hc => by
     obtain ⟨x', g1, g2, g3⟩ := hX.close _ e σ' _ y hw' hc;cases g1;cases hi;exact g3.1
    cases e with
    | normal =>
     obtain ⟨s', g1, g2⟩ := hS _ σ' _ y hw' he;cases g1;exact ih s' xx g2.1 hi
    | exit id => exact fin he
    | goto l => exact fin he
    | ret => exact fin he
    | panic ch => exact fin he
    | outgrown => exact fin he
  rw [hX.open'] at h4;exact ⟨_, _, key n s xx h2.1 hn, h4⟩
 intro R σ k r hh;simp only [yy] at hh;have key : ∀ (n : Nat) (s : S.T) (xx : X.T), iter g n s = some xx -> TLoop P x (S.st s) (fun e σ' => k e σ' = some r) \/ X.open' xx k ≠ some r := by
  intro n
  induction n with
  | zero => intro s xx h; cases h
  | succ n ih =>
   intro s xx hi
   by_cases hop : X.open' xx k = some r
   ·refine .inl (TLoop.step ?_);simp only [iter] at hi;rw [kF] at hi;obtain ⟨y, hy, hi⟩ := hi;rw [<- hg] at hy;have h1 := z83 hV x h hok hy;intro c a w Q' hr hw hK;refine h1 c a w Q' hr hw fun e c' a2 w' σ' he hw' hr' hxt hd => ?_
    have fin : ∀ e, e ≠ .normal -> (X.close e σ' fun x => some (Sum.inr x)) = some y -> Q' e a2 w' := by
     intro e hne hc;obtain ⟨x', g1, g2, g3⟩ := hX.close _ e σ' _ y hw' hc;cases g1;cases hi;obtain ⟨c2, hr2, hx2⟩ := g3.2 w' c' a2 hr';have hx2' := hx2;rw [hr.p hr' hxt] at hx2';refine hK e c2 a2 w' (X.at' xx).2 ?_ g3.1 hr2 (hx2' _ _ hxt) (hd.ext (hx2 _ _ (ExtP.refl _ _ _)));rw [hX.open', g2] at hop;cases e <;> first | exact hop | exact absurd rfl hne
    cases e with
    | normal =>
     obtain ⟨s', g1, g2⟩ := hS _ σ' _ y hw' he;cases g1;refine hK .normal c' a2 w' σ' ?_ hw' hr' hxt hd;rcases ih s' xx hi with h2 | h2
     ·exact TLoop.wk g2 h2
     ·exact absurd hop h2
    | exit id => exact fin _ (by simp) he
    | goto l => exact fin _ (by simp) he
    | ret => exact fin _ (by simp) he
    | panic ch => exact fin _ (by simp) he
    | outgrown => exact fin _ (by simp) he
   ·exact .inr hop
 intro c a w Q' hr hw hK;obtain ⟨s, h1, h2⟩ := hS R σ _ r hw hh;rw [kF] at h1;obtain ⟨xx, h3, h4⟩ := h1;obtain ⟨n, hn⟩ := z5b.1 h3;rcases key n s xx hn with h5 | h5
 ·exact TAW.wk h2 (TLoop.loop h5) c a w Q' hr hw hK
 ·exact absurd h4 h5
theorem zdq {X : XS} (h : X.OK) : ∀ σ : TS, ((fun _ => X) σ).OK := fun _ => h
end Go.Tm
