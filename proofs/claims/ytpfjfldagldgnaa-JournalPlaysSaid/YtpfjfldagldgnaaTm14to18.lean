import Derived.Test.YtpfjfldagldgnaaTm8to13
import Derived.Test.YtpfjfldagldgnaaAb27toP
open List renaming replicate → kA, length → kE, mem_append → kG, mem_of_getElem? → kH, map_cons → kI, mem_map → kJ, mem_singleton → kK, getElem?_eq_some_iff → kM, mem_or_eq_of_mem_set → kN, mem_of_mem_take → kU, all_eq_true → kV, eq_of_mem_replicate → kW, mem_cons → kZ, getElem?_set_self → k9, length_replicate → ka, mem_append_left → kb, replicate_succ → kc, getElem?_append_left → kh, length_append → ki, length_take → kr, mem_append_right → ks, getElem?_set_ne → kt, mem_of_mem_drop → ku, getElem?_map → kw, length_cons → kx, length_map → kz, map_set → lC
open Nat renaming eq_of_beq_eq_true → kB, beq → kC, le_of_ble_eq_true → kL, le_refl → kO, mul_le_mul_right → kP, zero_add → kQ, ble → kR, zero_mul → kY, add_mul → kv, min_le_left → lA, blt → lB, le_trans → lD, blt_eq → lE, not_lt → lF
open Bool renaming and_eq_true → kD, false_eq_true → k0, not_eq_true' → ko
open Option renaming bind_eq_some_iff → kF, map_some → kS, getD_some → ky
open Array renaming getElem?_eq_some_iff → kT, getElem?_eq_getElem → ke, size_modify → km
open Go.Sem renaming run_bind → kj
open Go.Result renaming andThen_ok → kq
set_option linter.unusedSimpArgs false
set_option linter.unusedVariables false
namespace Go.Tm
open Go.Ab
def ze4 (P : Program) (o : Oper) (σ : TS) (N : TS -> Prop) : Prop :=
 ∀ c a w (K : Act -> World -> Prop) Q, RelT w c σ a ->
  (∀ c' a' w' σ', N σ' -> σ'.wf -> RelT w' c' σ' a' -> ExtP σ.p w c w' c' -> a'.defers = a.defers -> K a' w') -> o.wp P a w K Q
variable {w : World} {c : Cx} {σ : TS} {a : Act} {t : TV}
theorem zem {v : Value} (d : Option Nat) (h : RelT w c σ a) (hv : VR w c t.pv v) : RelT w c (σ.put d t) (a.put d v) := by
 refine ⟨by cases d <;> exact h.1, ?_⟩
 rw [zco];refine ⟨?_, h.2.2.put d hv⟩;have := h.2.1;cases d <;> simpa [AS.put] using this
theorem z56 (σ : TS) (d : Option Nat) (p : TV) : (σ.put d p).H = σ.H /\ (σ.put d p).n = σ.n /\ (σ.put d p).p = σ.p := by cases d <;> exact ⟨rfl, rfl, rfl⟩
variable {P : Program} {o : Oper}
theorem yoi {q : TV} {N : TS -> Prop} (hw : σ.wf) (h : TQ P o σ q) (hN : N (σ.put o.dst q)) : ze4 P o σ N := by
 intro c a w K Q hr hK;refine h.2 σ.flat.H (fun _ _ => rfl) c a w K Q hr.2 fun v w' hv hg hx => hK c _ w' _ hN (jP hw _ h.1) ?_ (zv3 hr.noT hx) (Act.put_defers' _ _ _)
 exact zem _ ⟨hr.1, hg, hr.2.2.ext hx⟩ hv
variable {e : TypeId}
theorem NewObj.le {σ : AS} {cs ds : List PV} {pf : Nat -> PV} (h : NewObj P o σ cs e pf) (hc : CLe cs ds) (hl : zu ds) : NewObj P o σ ds e pf := by
 obtain ⟨h1, h2⟩ := h;refine ⟨hl, fun w c a hr => ?_⟩
 rcases h2 w c a hr with ⟨v, d, ⟨vs, fr, k1, k2, k3, k4, k5⟩ | ⟨rfl, k1, k2⟩⟩
 ·exact ⟨v, d, .inl ⟨vs, fr, k1, k2, by rw [<- hc.1]; exact k3, z2o ⟨_, _, hr.1⟩ hc k4, k5⟩⟩
 ·exact ⟨v, d, .inr ⟨List.eq_nil_of_length_eq_zero hc.1.symm, k1, k2⟩⟩
def ybu : Operand -> Operand -> Bool
 | .tmp a, .tmp b => kC a b
 | .const (.int k n), .const (.int k' m) => z8z k k' && decide (n = m)
 | _, _ => false
theorem yqk {x y : Operand} (h : ybu x y = true) : x = y := by
 unfold ybu at h;split at h
 ·rw [kB h]
 ·simp only [kD, decide_eq_true_eq] at h;rw [z71 h.1, h.2]
 ·cases h
variable {R : Type}
def y0h (n : Int) (nb : Nat) (k : Option R) : Option R := bif leI 0 n && leI (nb * n) 281474976710656 then k else none
def ynt (P : Program) (s : TypeId) : Bool :=
 match P.underlying s with
 | some .string => true
 | _ => false
def zxv : TV -> Bool
 | .nil => true
 | .fsl _ [] => true
 | _ => false
theorem ypx (h : zxv t = true) : t.pv = .tr 0 [] .full := by
 unfold zxv at h;split at h
 ·rfl
 ·rfl
 ·cases h
theorem yku (h : zxv t = true) : t ≠ .dead := fun e => by subst e; cases h
def zrl (P : Program) (own : List Nat) (i : Nat) (o : Oper) (σ : TS) : Bool :=
 match o.op with
 | .box _ _ => true
 | .alloc _ => true
 | .makeSlice _ _ _ => true
 | .convert s t _ => ynt P s && znc P t
 | .call { callee := .builtin .append, args := xs, argTypes := _ } => zdq own i && (match xs.toList.map σ.eval with
  | [a, _] => zxv a
  | _ => false)
 | .buildSlice _ _ _ => zdq own i
 | _ => false
def ymb (P : Program) (t : TypeId) (len : Nat) (ps : List (Nat × TV)) (k : TypeId -> (u : U) -> List u.T -> Option R) : Option R :=
 match P.underlying t with
 | some (.slice e) => bif kC len 0 && kC ps.length 0 then (match zae P z8q e, yW P e with
  | some u, some n => bif kC n u.size then k e u [] else none
  | _, _ => none) else
  match zae P z8q e, yW P e, z1j P e with
  | some u, some n, some z => bif kC n u.size && !kC n 0 && !kC len 0 && kC z.length n && z.all leaf && kR (len * n) 16777216 && kC ps.length len && zs4 ps 0 && ps.all (fun x => x.2.stores)
   then zmi u (ps.map (·.2)) fun l => k e u l else none
  | _, _, _ => none
 | _ => none
theorem yvj {σ : AS} {t e : TypeId} {len n : Nat} {parts : Array (Nat × Operand)} {z : List PV} {ps : List PV}
  (ho : o.op = .buildSlice t len parts) (ht : P.underlying t = some (.slice e)) (hs : yW P e = some n) (hn : n ≠ 0) (hl0 : len ≠ 0) (hz : z1j P e = some z) (hzn : z.length = n) (hzl : zu z)
  (hmax : len * n <= 2 ^ 24) (hlen : ps.length = len) (hps : parts.toList.map (fun x => (x.1, σ.eval x.2)) = (ps.zipIdx 0).map fun x => (x.2, x.1)) (hp : ∀ p, p ∈ ps -> zu4 p = true /\ (cellsOf p).length = n) (hlf : zu (ps.flatMap cellsOf)) :
  NewObj P o σ (ps.flatMap cellsOf) e (fun b => .sl b 0 len n) := by
 have hfill : zoj (fun i => some (i * n, n)) (kA len z).flatten ((ps.zipIdx 0).map fun x => (x.2, x.1)) (ps.flatMap cellsOf) := by
  have := y97 ps 0 [] (kA len z).flatten (by simp) (by simp [hzn, hlen]) hp
  simpa using this
 have hcl : (ps.flatMap cellsOf).length = len * n := by
  rw [<- hlen];clear hfill hlf hps hlen hmax hl0
  induction ps with
  | nil => simp
  | cons p ps ih => simp only [List.flatMap_cons, ki, kx, (hp p (by simp)).2, ih fun q hq => hp q (by simp [hq]), kv, Nat.one_mul]; omega
 refine ⟨hlf, fun w c a hr => ?_⟩
 have hvals : (parts.map fun (x : Nat × Operand) => (x.1, a.eval x.2)).toList.length = ((ps.zipIdx 0).map fun x => (x.2, x.1)).length := by rw [<- hps]; simp
 have hrel : ∀ (k i : Nat) (p : PV), ((ps.zipIdx 0).map fun x => (x.2, x.1))[k]? = some (i, p) -> ∃ v, (parts.map fun (x : Nat × Operand) => (x.1, a.eval x.2)).toList[k]? = some (i, v) /\ VR w c p v := by
  intro k i p hp;rw [<- hps, kw] at hp;cases hx : parts.toList[k]? with
  | none => rw [hx] at hp; cases hp
  | some x =>
   rw [hx] at hp;simp at hp;obtain ⟨rfl, rfl⟩ := hp;exact ⟨a.eval x.2, by rw [Array.toList_map, kw, hx]; rfl, hr.2.eval x.2⟩
 obtain ⟨vs, h1, h2, h3, h4⟩ := zz5 ht hs hn hl0 hz hzn hzl rfl hmax hfill hvals hrel;have hvs : vs.size = len * n := by rw [h2, hcl]
 refine ⟨.slice (some ⟨w.heap.size, 0, none⟩) len len, w.drawn, .inl ⟨vs, (0, 0), ?_, z9n _, Nat.le_of_eq h2.symm, h4, fun w' c' b hb hm => ?_⟩⟩
 ·have h1' : (Instr.buildSlice t len (parts.map fun (x : Nat × Operand) => (x.1, a.eval x.2))).run P w =
    .ok (.slice (some ⟨w.heap.size, 0, none⟩) len len) (grow w (.cells vs e (0, 0))) := by have h1' := h1; rwa [Array.toArray_toList] at h1'
  simp only [execOp, ho, kj, h1', kq];rfl
 ·simp only [VR];exact .inr ⟨w.heap.size, len, 0, hm, rfl, .inr rfl, kO _, vs, e, (0, 0), hb, by rw [hvs]; omega⟩
variable {n : Nat}
theorem yt5 {σ : AS} {t e : TypeId} {parts : Array (Nat × Operand)} (ho : o.op = .buildSlice t 0 parts) (hp : parts.toList.length = 0) (ht : P.underlying t = some (.slice e)) (hs : yW P e = some n) :
  NewObj P o σ [] e (fun b => .sl b 0 0 n) := by
 have hpe : parts = #[] := by
  apply Array.ext' ; exact List.eq_nil_of_length_eq_zero hp
 subst hpe;refine ⟨(fun p hp => by cases hp), fun w c a hr => ?_⟩
 have h1 : (Instr.buildSlice t 0 #[]).run P w = .ok (.slice (some ⟨w.heap.size, 0, none⟩) 0 0) (grow w (.cells #[] e (0, 0))) := by
  unfold Instr.buildSlice;simp only [kj, Ab.run_underlying ht, kq, Ab.run_sizeOf hs];rw [if_neg (by omega)]
  have e3 : (Array.range 0).map (fun x => (#[] : Array Value)[x % (#[] : Array Value).size]!) = #[] := by simp
  simp only [kY, if_true, Sem.run_pure, kj, kq];rw [e3];simp only [Instr.fill, kj, newRow, run_newObj, kq, Sem.run_pure];rfl
 refine ⟨.slice (some ⟨w.heap.size, 0, none⟩) 0 0, w.drawn, .inl ⟨#[], (0, 0), ?_, z9n _, Nat.zero_le _, (by simp only [VRs]), fun w' c' b hb hm => ?_⟩⟩
 ·have e2 : (#[] : Array (Nat × Operand)).map (fun x => (x.1, a.eval x.2)) = #[] := by simp
  simp only [execOp, ho, kj];rw [show (Array.map (fun (x : Nat × Operand) => (x.1, a.eval x.2)) #[]) = #[] from e2, h1]
  rfl
 ·simp only [VR];exact .inl ⟨⟨_, rfl⟩, trivial⟩
def yny (P : Program) (o : Oper) (σ : TS) (k : (Nat -> TV) -> TypeId -> Ob -> Option R) : Option R :=
 match o.op with
 | .box t x => bif (σ.eval x).stores then k (fun b => .ptr b (.one (σ.eval x).lay) []) t (.var (σ.eval x)) else none
 | .alloc t => match yhf P t with
  | some z => k (fun b => .ptr b (.one z.lay) []) t (.var z)
  | none => none
 | .makeSlice t x y => match P.underlying t with
  | some (.slice e) => match zae P z8q e, z1j P e, (P.info? e).map (·.bytes), σ.eval x with
   | some u, some z, some nb, .v (.int .i64) n => bif ybu x y && yV P e u && !kC nb 0 && !kC u.size 0 && kC z.length u.size && u.solid && zei z (zr u (z02 u)) && z.all leaf then
     y0h n nb (k (fun b => .os b (.row u.canon) [] u 0 n.toNat) e (.row u (kA n.toNat (z02 u)))) else none
   | _, _, _, _ => none
  | _ => none
 | .convert _ t x => match P.underlying t, σ.eval x with
  | some (.slice e), .v .str s => k (fun b => .os b (.row (U.int .u8).canon) [] (.int .u8) 0 (kE s)) e (.row (.int .u8) s)
  | _, _ => none
 | .call { callee := .builtin .append, args := xs, argTypes := ts } => match xs.toList.map σ.eval, ts.toList with
  | [a, b], [t, t2] => bif zxv a then (match P.underlying t with
   | some (.slice e) => match zae P z8q e with
    | some u => zgy P σ.H t t2 u [] b fun m => k (fun b => .os b (.row u.canon) [] u 0 m.length) e (.row u m)
    | none => none
   | _ => none) else none
  | _, _ => none
 | .buildSlice t len parts => ymb P t len (parts.toList.map fun x => (x.1, σ.eval x.2)) fun e u l => k (fun b => .os b (.row u.canon) [] u 0 (kE l)) e (.row u l)
 | _ => none
def y6h (P : Program) (o : Oper) : Bool :=
 match o.op with
 | .convert s t _ => ynt P s && znc P t
 | _ => true
structure NewOK (P : Program) (o : Oper) (σ : TS) (pf : Nat -> TV) (e : TypeId) (ob : Ob) : Prop where
 wf : ob.wf
 pwf : ∀ b, (pf b).wf
 new : ∀ Y : List AObj, (∀ b, b ∈ qP o σ -> Y[b]? = σ.flat.H[b]?) -> NewObj P o { σ.flat with H := Y } ob.cells e (fun b => (pf b).pv)
theorem y0y (u : U) (x : u.T) : ∀ n, zI u (kA n x) = (kA n (zr u x)).flatten
 | 0 => rfl
 | n + 1 => by
  have := y0y u x n;simp only [kc, zI, List.flatMap_cons, List.flatten_cons] at this ⊢;rw [this]
theorem zmn {a b : List PV} (h : CLe a b) : ∀ n, CLe (kA n a).flatten (kA n b).flatten
 | 0 => CLe.refl _
 | n + 1 => by
  simp only [kc, List.flatten_cons];exact h.append (zmn h n)
theorem yj2 {k : (Nat -> TV) -> TypeId -> Ob -> Option R} {r : R} (hw : σ.wf) (hs : y6h P o = true) (h : yny P o σ k = some r) : ∃ pf e ob, k pf e ob = some r /\ NewOK P o σ pf e ob := by
 unfold yny at h;split at h
 ·rename_i t x ho;cases hs : (σ.eval x).stores with
  | false => rw [hs] at h; cases h
  | true =>
   rw [hs] at h;have hwx := zS hw x;have ex : σ.flat.eval x = (σ.eval x).pv := by
    rcases z9g σ x with e | e
    ·exact e
    ·rw [e] at hs; cases hs
   refine ⟨_, _, _, h, ⟨hwx, hs⟩, fun b => by simp only [TV.wf], fun Y _ => ?_⟩
   simp only [TV.pv, Rt.off, U.off];exact yvi (σ := { σ.flat with H := Y }) ho ex (zrr hwx hs) (qy hwx hs)
 ·rename_i t ho;split at h
  ·rename_i z hz;obtain ⟨z1, z2, zp, z3, z4, z5⟩ := y1q hz;refine ⟨_, _, _, h, ⟨z1, z2⟩, fun b => by simp only [TV.wf], fun Y _ => ?_⟩
   simp only [TV.pv, Rt.off, U.off];exact yqb (σ := { σ.flat with H := Y }) ho z3 z5.1 (qy z1 z2) fun w c f hg hv => z2o hg z5 hv
  ·cases h
 ·rename_i t x y ho;split at h
  ·rename_i e hu;split at h
   ·rename_i u z nb n hcu hz hnb hx;cases hc : ybu x y && yV P e u && !kC nb 0 && !kC u.size 0 && kC z.length u.size && u.solid && zei z (zr u (z02 u)) && z.all leaf with
    | false => rw [hc] at h; cases h
    | true =>
     rw [hc] at h;simp only [kD, ko] at hc;obtain ⟨⟨⟨⟨⟨⟨⟨c1, c2⟩, c3⟩, c4⟩, c5⟩, c6⟩, c7⟩, c8⟩ := hc;have e1 := yqk c1;subst e1;simp only [cond_true, y0h] at h;cases hg : leI 0 n && leI (nb * n) 281474976710656 with
     | false => rw [hg] at h; cases h
     | true =>
      rw [hg] at h;simp only [kD, decide_eq_true_eq] at hg;have hwn := zS hw x;rw [hx] at hwn;simp only [TV.wf, wfU] at hwn;have hzw := zmm u c6;have hwr : ∀ y, y ∈ kA n.toNat (z02 u) -> wfU u y := fun y hy => by rw [kW hy]; exact hzw
      have ex : σ.flat.eval x = .val (.int .i64 n) := zm hx (by simp)
      refine ⟨_, _, _, h, hwr, fun b => by simp only [TV.wf], fun Y _ => ?_⟩
      have hel : ElemT P e u.size nb := ⟨(jN c2).2, hnb, fun e0 => by rw [e0] at c3; simp at c3, z, hz, kB c5⟩
      have := yt6 (P := P) (σ := { σ.flat with H := Y }) (x := x) (y := x) ho hu hel hz (kB c5) (fun p hp => kV.1 c8 p hp) (fun e => by rw [e] at c4; simp at c4) ex ex hg.1 (by omega) hwn.2
      simp only [TV.pv, Rt.off, kY, kQ];refine NewObj.le this ?_ (xL hwr);simp only [Ob.cells];rw [y0y];exact zmn (zjr c7) _
   ·cases h
  ·cases h
 ·rename_i s t x ho;split at h
  ·rename_i e s' hu hx;have hwx := zS hw x;rw [hx] at hwx;simp only [TV.wf, wfU] at hwx;have ex : σ.flat.eval x = .val (.string (ba s')) := by rw [zm hx (by simp)]; rfl
   unfold y6h at hs;rw [ho] at hs;simp only [kD] at hs;obtain ⟨hs1, hs2⟩ := hs;obtain ⟨e', h1, h2⟩ := zwr hs2;rw [hu] at h1;cases h1;have hstr : P.underlying s = some .string := by
    unfold ynt at hs1;split at hs1
    ·assumption
    ·cases hs1
   refine ⟨_, _, _, h, yhz hwx, fun b => by simp only [TV.wf], fun Y _ => ?_⟩
   have := yqc (P := P) (σ := { σ.flat with H := Y }) ho hstr hu h2 ex;rw [yfz hwx] at this;simp only [TV.pv, Rt.off, kY, kQ, U.size, zhp, Ob.cells] at this ⊢;exact this
  ·cases h
 ·rename_i xs ts ho;generalize hm : xs.toList.map σ.eval = m at h;generalize hts : ts.toList = l at h;split at h
  ·rename_i a0 b t t2;obtain ⟨x, y, rfl, hx, hy⟩ := zu6 hm;have e := vf hts; subst e;cases hem : zxv a0 with
   | false => rw [hem] at h; cases h
   | true =>
   rw [hem] at h;simp only [cond_true] at h;split at h
   ·rename_i e hu;split at h
    ·rename_i u _;rw [<- hy] at h;obtain ⟨m', e', nb, h1, h2⟩ := zok hw h;have hu' := h2.ty;rw [hu] at hu';cases hu';refine ⟨_, _, _, h1, h2.wf, fun b => by simp only [TV.wf], fun Y hY => ?_⟩
     have := ynz (P := P) (σ := { σ.flat with H := Y }) ho hu h2.el h2.src (by rw [show AS.eval { σ.flat with H := Y } x = σ.flat.eval x from rfl, zm hx (yku hem)]; exact ypx hem) (h2.srcN Y fun b hb => hY b (by simp [qP, ho, hb])).ok (by have := h2.le; simpa using this)
     simp only [TV.pv, Rt.off, kY, kQ, Ob.cells];exact this
    ·cases h
   ·cases h
  ·cases h
 ·rename_i t len parts ho;have hpw : ∀ p, p ∈ (parts.toList.map fun x => (x.1, σ.eval x.2)) -> p.2.wf := fun p hp => by
   simp only [kJ] at hp;obtain ⟨x, _, rfl⟩ := hp;exact zS hw x.2
  unfold ymb at h;split at h
  ·rename_i e hu;cases h0 : kC len 0 && kC (parts.toList.map fun x => (x.1, σ.eval x.2)).length 0 with
   | true =>
    rw [h0] at h;simp only [kD, kz] at h0;have e0 := kB h0.1;have e1 := kB h0.2;subst e0;simp only [cond_true] at h;split at h
    ·rename_i u n hcode hn;cases hc : kC n u.size with
     | false => rw [hc] at h; cases h
     | true =>
      rw [hc] at h;have e2 := kB hc;refine ⟨_, _, _, h, (fun x hx => by cases hx), fun b => by simp only [TV.wf], fun Y _ => ?_⟩
      simp only [TV.pv, Rt.off, kY, kQ, Ob.cells, List.length_nil];rw [<- e2];exact yt5 (σ := { σ.flat with H := Y }) ho e1 hu hn
    ·cases h
   | false =>
   rw [h0] at h;simp only [cond_false] at h;split at h
   ·rename_i u n z hcode hn hz;generalize hps : (parts.toList.map fun x => (x.1, σ.eval x.2)) = ps at h hpw
    cases hc : kC n u.size && !kC n 0 && !kC len 0 && kC z.length n && z.all leaf && kR (len * n) 16777216 && kC ps.length len && zs4 ps 0 && ps.all (fun x => x.2.stores) with
    | false => rw [hc] at h; cases h
    | true =>
     rw [hc] at h;simp only [kD, ko] at hc;obtain ⟨⟨⟨⟨⟨⟨⟨⟨c1, c2⟩, c3⟩, c4⟩, c5⟩, c6⟩, c7⟩, c8⟩, c9⟩ := hc;have e1 := kB c1;have e7 := kB c7;have n0 : n ≠ 0 := fun e => by rw [e] at c2; cases c2
     have l0 : len ≠ 0 := fun e => by rw [e] at c3; cases c3
     obtain ⟨l, q1, q2, q3, q4, q5⟩ := ztv (fun s hs => by
      simp only [kJ] at hs;obtain ⟨x, hx, rfl⟩ := hs;exact hpw x hx) h
     simp only [kz] at q2;refine ⟨_, _, _, q1, q3, fun b => by simp only [TV.wf], fun Y _ => ?_⟩
     have hst : ∀ p, p ∈ ps.map (fun x => x.2.pv) -> zu4 p = true /\ (cellsOf p).length = n := fun p hp => by
      simp only [kJ] at hp;obtain ⟨x, hx, rfl⟩ := hp;exact ⟨zrr (hpw x hx) (kV.1 c9 x hx), by rw [e1]; exact q5 x.2 (kJ.2 ⟨x, hx, rfl⟩)⟩
     have e2 : (ps.map fun x => x.2.pv).flatMap cellsOf = (ps.map (·.2)).flatMap TV.cells := by simp [List.flatMap_map, TV.cells]
     have hlf : zu ((ps.map fun x => x.2.pv).flatMap cellsOf) := fun p hp => by
      rw [List.mem_flatMap] at hp;obtain ⟨y, hy, hp⟩ := hp;simp only [kJ] at hy;obtain ⟨x, hx, rfl⟩ := hy;exact qy (hpw x hx) (kV.1 c9 x hx) p hp
     have hq := yvj (σ := { σ.flat with H := Y }) (ps := ps.map fun x => x.2.pv) ho hu hn n0 l0 hz (kB c4) (fun p hp => kV.1 c5 p hp) (by have := kL c6; omega) (by simpa using e7)
      (by rw [show (parts.toList.map fun x => (x.1, AS.eval { σ.flat with H := Y } x.2)) = parts.toList.map fun x => (x.1, σ.flat.eval x.2) from rfl, zt4 (by rw [hps]; exact c9), hps]; exact zwh c8) hst hlf
     rw [e2] at hq;have hq2 := NewObj.le hq q4 (xL q3);simp only [TV.pv, Rt.off, kY, kQ, Ob.cells];rw [q2, e7, <- e1];exact hq2
   ·cases h
  ·cases h
 ·cases h
theorem yt7 {pf : Nat -> TV} {ob : Ob} {N : TS -> Prop} (hw : σ.wf) (h : NewOK P o σ pf e ob) (hN : N { σ.put o.dst (pf σ.H.length) with H := σ.H ++ [.ob e ob] }) : ze4 P o σ N := by
 intro c a w K Q hr hK;have h1 := h.new σ.flat.H (fun _ _ => rfl)
 have hstep := yu4 (N := fun τ => τ = { σ.flat.put o.dst (pf σ.H.length).pv with H := σ.flat.H ++ [.row ob.cells e] }) h1 (by simp [TS.flat])
 refine hstep c a w K Q hr.2 fun c' a' w' τ hτ hr' hx hd => ?_
 subst hτ;refine hK c' a' w' _ hN ⟨fun x hx' => ?_, fun q hq => ?_⟩ ⟨?_, ?_⟩ (zv3 hr.noT hx) hd
 ·have := (jP hw o.dst (h.pwf σ.H.length)).slots;exact this x hx'
 ·rcases kG.1 hq with hq | hq
  ·exact hw.H q hq
  ·simp only [kK] at hq; subst hq; exact h.wf
 ·show c'.pn = (σ.put o.dst (pf σ.H.length)).p;rw [hx.pn, hr.1, (z56 _ _ _).2.2]
 ·have e1 : TS.flat { σ.put o.dst (pf σ.H.length) with H := σ.H ++ [.ob e ob] } = { σ.flat.put o.dst (pf σ.H.length).pv with H := σ.flat.H ++ [.row ob.cells e] } := by
   cases o.dst <;> simp [TS.flat, TS.put, AS.put, TOb.flat]
  rw [e1]; exact hr'
def yct (P : Program) (o : Oper) (σ : TS) (t : TypeId) (x y : Operand) (k : Nat -> TypeId -> Ob -> Option R) : Option R :=
 match yW P t, σ.eval x with
 | some n, .ptr b r p =>
  match σ.H[b]? with
  | some (.ob e ob) => bif r.beq ob.lay && (σ.eval y).stores && kC n (σ.eval y).lay.size then y5q ob p (σ.eval y) fun ob' => k b e ob' else none
  | _ => none
 | _, _ => none
variable {b : Nat}
theorem Good.setLe {H : List AObj} {ts : List Bool} (g : Ab.Good w c H ts) {cs ds : List PV} (hb : H[b]? = some (.row cs e)) (hc : CLe cs ds) (hl : zu ds) : Ab.Good w c (H.set b (.row ds e)) ts :=
 {g with
  len := by rw [g.len]; simp
  obj := fun i o h => by
   by_cases hi : b = i
   ·subst hi;rw [k9 (kM.1 hb).1] at h;cases h;rcases g.obj b _ hb with ⟨g1, g2⟩ | ⟨k, vs, fr, g1, g2, g3, g4, g5, g6⟩
    ·exact .inl ⟨List.length_eq_zero_iff.1 (by rw [<- hc.1, g1]; rfl), g2⟩
    ·exact .inr ⟨k, vs, fr, g1, g2, g3, by rw [<- hc.1]; exact g4, hl, z2o ⟨_, _, g⟩ hc g6⟩
   ·rw [kt hi] at h;exact g.obj i o h }
theorem StoreStep.le {σ : AS} {cs ds : List PV} (h : StoreStep P o σ b cs e) (hc : CLe cs ds) (hl : zu ds) (hb : b < σ.H.length) : StoreStep P o σ b ds e := by
 intro c a w K Q hr hK;refine h c a w K Q hr fun w' hg hx => hK w' ?_ hx
 have := Good.setLe hg (k9 hb) hc hl;rw [List.set_set] at this;exact this
theorem yf3 {H : List TOb} (hw : ∀ o, o ∈ H -> o.wf) : ∀ x, x ∈ H.map TOb.flat -> OLe x x := fun x hx => by
 simp only [kJ] at hx;obtain ⟨q, hq, rfl⟩ := hx;cases q with
 | gone => rfl
 | ob e o => exact ⟨rfl, CLe.refl _, yt9 (hw _ hq)⟩
structure StoreOK (P : Program) (o : Oper) (σ : TS) (b : Nat) (e : TypeId) (ob' : Ob) : Prop where
 wf : ob'.wf
 lt : b < σ.H.length
 ob : ∃ ob, σ.H[b]? = some (.ob e ob)
 step : ∀ Y : List AObj, Y[b]? = σ.flat.H[b]? -> StoreStep P o { σ.flat with H := Y } b ob'.cells e
theorem ycu {t : TypeId} {x y : Operand} {k : Nat -> TypeId -> Ob -> Option R} {r : R} (ho : o.op = .store t x y) (hw : σ.wf) (h : yct P o σ t x y k = some r) : ∃ b e ob', k b e ob' = some r /\ StoreOK P o σ b e ob' := by
 unfold yct at h;split at h
 ·rename_i n b rt p hn hx;split at h
  ·rename_i e ob hb;cases hc : rt.beq ob.lay && (σ.eval y).stores && kC n (σ.eval y).lay.size with
   | false => rw [hc] at h; cases h
   | true =>
    rw [hc] at h;simp only [kD] at hc;obtain ⟨⟨c1, c2⟩, c3⟩ := hc;have e1 := Rt.beq_eq c1;subst e1;have e3 := kB c3;have hwy := zS hw y;have hob := hw.H _ (kH hb);obtain ⟨ob', h1, h2⟩ := yfw ob p hob hwy h;have ex : σ.flat.eval x = .ptr b (ob.lay.off p) := by rw [zm hx (by simp)]; simp only [TV.pv]
    have ey : σ.flat.eval y = (σ.eval y).pv := by
     rcases z9g σ y with e | e
     ·exact e
     ·rw [e] at c2; cases c2
    have hl := jH _ hwy;have hblt : b < σ.H.length := (kM.1 hb).1;refine ⟨b, e, ob', h1, h2.wf, hblt, ⟨ob, hb⟩, fun Y hY => ?_⟩
    have hbY : Y[b]? = some (.row ob.cells e) := hY.trans (zmr hb);refine StoreStep.le (yu5 (σ := { σ.flat with H := Y }) ho hn ex ey (zrr hwy c2) (by rw [e3]; exact hl) hbY (by rw [e3, <- hl]; exact h2.le)) h2.cells h2.leafs (kM.1 hbY).1
  ·cases h
 ·cases h
theorem y1g (σ : TS) (b : Nat) (e : TypeId) (ob : Ob) : TS.flat { σ with H := σ.H.set b (.ob e ob) } = { σ.flat with H := σ.flat.H.set b (.row ob.cells e) } := by
 simp [TS.flat, TOb.flat, lC]
theorem yco (hw : σ.wf) (b : Nat) {o : TOb} (ho : o.wf) : TS.wf { σ with H := σ.H.set b o } :=
 ⟨hw.slots, fun q hq => by
  rcases kN hq with hq | hq
  ·exact hw.H q hq
  ·rw [hq]; exact ho⟩
def z1y {α : Type} (l : List α) (lo n : Nat) (m : List α) : List α := l.take lo ++ m.take (min m.length n) ++ l.drop (lo + min m.length n)
theorem yi6 {α : Type} {l m : List α} {lo n : Nat} {x : α} (h : x ∈ z1y l lo n m) : x ∈ l \/ x ∈ m := by
 simp only [z1y, kG] at h;rcases h with (h | h) | h
 ·exact .inl (kU h)
 ·exact .inr (kU h)
 ·exact .inl (ku h)
theorem ysg {α : Type} {l m : List α} {lo n : Nat} (h : lo + n <= l.length) : (z1y l lo n m).length = l.length := by
 simp only [z1y, ki, kr, List.length_drop];omega
variable {u : U}
theorem yi7 {l m : List u.T} {lo n : Nat} (hl : ∀ x, x ∈ l -> wfU u x) (hm : ∀ x, x ∈ m -> wfU u x) (h : lo + n <= l.length) :
  zI u (z1y l lo n m) = splice (zI u l) (lo * u.size) ((zI u m).take (min m.length n * u.size)) := by
 have e3 : (zI u m).take (min m.length n * u.size) = zI u (m.take (min m.length n)) := zin hm (lA _ _);have e4 : (zI u (m.take (min m.length n))).length = min m.length n * u.size := by
  rw [vq (fun x hx => hm x (kU hx)), kr]
  congr 1; omega
 simp only [z1y, zxa, splice];rw [e3, e4, <- zin hl (by omega), <- kv, <- zob hl (by omega)]
def yke (o : Ob) (p : List Stp) (u : U) (f : List u.T -> (List u.T -> Option R) -> Option R) (k : Ob -> Option R) : Option R :=
 zzz o p fun t => match t with
  | .v (.arr m u') l => vt (.sl u') (.sl u) l fun l0 => f l0 fun l1 => vt (.sl u) (.sl u') l1 fun l2 => y5q o p (.v (.arr m u') l2) k
  | _ => none
def yd3 (o : Ob) (r : Rt) (p : List Stp) (u : U) (f : List u.T -> (List u.T -> Option R) -> Option R) (k : Ob -> Option R) : Option R :=
 bif r.beq o.lay then
  match o, p with
  | .row u' l, [] => vt (.sl u') (.sl u) l fun l0 => f l0 fun l1 => vt (.sl u) (.sl u') l1 fun l2 => k (.row u' l2)
  | o, p => yke o p u f k
 else none
def ync (P : Program) (σ : TS) (xs : List TV) (ts : List TypeId) (k : Nat -> TypeId -> Ob -> Option R) : Option R :=
 match xs, ts with
 | [.os b r p u lo n, y], [t, t2] => match P.underlying t, σ.H[b]? with
  | some (.slice e), some (.ob el o) => bif yV P e u then you P σ.H t2 u y fun m => yd3 o r p u (fun l k => bif kR (zc6 lo n) (kE l) then k (z1y l lo n m) else none) fun o' => k b el o' else none
  | _, _ => none
 | _, _ => none
structure UpdOK (o : Ob) (off n : Nat) (q : List PV) (o' : Ob) : Prop where
 wf : o'.wf
 cells : CLe (splice o.cells off q) o'.cells
 leafs : zu o'.cells
 le : off + n <= o.cells.length
theorem yuz {o : Ob} {p : List Stp} {lo n : Nat} {m : List u.T} {k : Ob -> Option R} {x : R} (hw : o.wf) (hm : ∀ y, y ∈ m -> wfU u y)
  (h : yke o p u (fun l k => bif kR (zc6 lo n) (kE l) then k (z1y l lo n m) else none) k = some x) : ∃ o', k o' = some x /\ UpdOK o (o.lay.off p + lo * u.size) (n * u.size) ((zI u m).take (min m.length n * u.size)) o' := by
 unfold yke at h;have hq : ((zI u m).take (min m.length n * u.size)).length = min m.length n * u.size := by
  rw [kr, vq hm];have : min m.length n * u.size <= m.length * u.size := kP _ (lA _ _);omega
 have hq2 : min m.length n * u.size <= n * u.size := kP _ (Nat.min_le_right _ _);obtain ⟨t', h1, h2⟩ := zv4 _ _ hw h;split at h1
 ·rename_i mm u' l;obtain ⟨e, h1⟩ := yY h1;cases e;have h1 : (bif kR (zc6 lo n) (kE l) then vt (.sl u) (.sl u) (z1y l lo n m) fun l2 => y5q o p (.v (.arr mm u) l2) k else none) = some x := h1
  cases hb : kR (zc6 lo n) (kE l) with
  | false => rw [hb] at h1; cases h1
  | true =>
   rw [hb] at h1;simp only [cond_true] at h1;obtain ⟨e, h1⟩ := yY h1;cases e;have hle := kL hb;rw [zlc] at hle;obtain ⟨g1, g2, g3⟩ := zrh h2.wf;have hwt := h2.wf;simp only [TV.wf, wfU] at hwt;have hw' : ∀ y, y ∈ z1y l lo n m -> wfU u y := fun y hy => (yi6 hy).elim (g1 y) (hm y)
   have hmul : lo * u.size + n * u.size <= l.length * u.size := by rw [<- kv]; exact kP _ hle
   have hnew : (TV.v (.arr mm u) (z1y l lo n m)).wf := by
    simp only [TV.wf, wfU];exact ⟨by rw [ysg hle]; exact hwt.1, hw'⟩
   obtain ⟨o', k1, k2⟩ := yfw _ _ hw hnew h1;have e6 := h2.cells; have e7 := h2.le;rw [g2] at e6 e7;rw [g3] at e7;refine ⟨o', k1, k2.wf, ?_, k2.leafs, by omega⟩
   have hce := k2.cells;rw [z9c, yi7 g1 hm hle] at hce;rw [zaw _ _ _ _ _ (by rw [g3]; omega) (by rw [hq, g3]; omega) (by rw [g3] at e6 ⊢; exact e6)] at hce
   exact hce
 ·cases h1
theorem ykg {o : Ob} {r : Rt} {p : List Stp} {lo n : Nat} {m : List u.T} {k : Ob -> Option R} {x : R} (hw : o.wf) (hm : ∀ y, y ∈ m -> wfU u y)
  (h : yd3 o r p u (fun l k => bif kR (zc6 lo n) (kE l) then k (z1y l lo n m) else none) k = some x) : ∃ o', k o' = some x /\ UpdOK o (r.off p + lo * u.size) (n * u.size) ((zI u m).take (min m.length n * u.size)) o' := by
 unfold yd3 at h;have hq : ((zI u m).take (min m.length n * u.size)).length = min m.length n * u.size := by
  rw [kr, vq hm];have : min m.length n * u.size <= m.length * u.size := kP _ (lA _ _);omega
 have hq2 : min m.length n * u.size <= n * u.size := kP _ (Nat.min_le_right _ _);cases hc : r.beq o.lay with
 | false => rw [hc] at h; cases h
 | true =>
  rw [hc] at h;have e := Rt.beq_eq hc;subst e;simp only [cond_true] at h;split at h
  ·rename_i u' l;obtain ⟨e, h⟩ := yY h;cases e;have h : (bif kR (zc6 lo n) (kE l) then vt (.sl u) (.sl u) (z1y l lo n m) fun l2 => k (Ob.row u l2) else none) = some x := h
   cases hb : kR (zc6 lo n) (kE l) with
   | false => rw [hb] at h; cases h
   | true =>
    rw [hb] at h;simp only [cond_true] at h;obtain ⟨e, h⟩ := yY h;cases e;have hle := kL hb;rw [zlc] at hle;have hwl : ∀ y, y ∈ l -> wfU u y := hw;have hw' : ∀ y, y ∈ z1y l lo n m -> wfU u y := fun y hy => (yi6 hy).elim (hwl y) (hm y)
    have hmul : lo * u.size + n * u.size <= l.length * u.size := by rw [<- kv]; exact kP _ hle
    refine ⟨_, h, hw', ?_, xL hw', ?_⟩
    ·simp only [Ob.cells, Ob.lay, Rt.off, kQ];rw [yi7 hwl hm hle]; exact CLe.refl _
    ·simp only [Ob.cells, Ob.lay, Rt.off, kQ, vq hwl]; exact hmul
  ·exact yuz hw hm h
structure CopyOK (P : Program) (o : Oper) (σ : TS) (b : Nat) (e : TypeId) (ob' : Ob) : Prop where
 wf : ob'.wf
 lt : b < σ.H.length
 step : ∀ N : AS -> Prop, N (({ σ.flat with H := σ.flat.H.set b (.row ob'.cells e) } : AS).put o.dst .dead) -> Step P o σ.flat N
theorem yps {xs : Array Operand} {ts : Array TypeId} {k : Nat -> TypeId -> Ob -> Option R} {r : R} (ho : o.op = .call { callee := .builtin .copy, args := xs, argTypes := ts }) (hw : σ.wf)
  (h : ync P σ (xs.toList.map σ.eval) ts.toList k = some r) : ∃ b e ob', k b e ob' = some r /\ CopyOK P o σ b e ob' := by
 unfold ync at h;generalize hm : xs.toList.map σ.eval = m at h;generalize hts : ts.toList = l at h;split at h
 ·rename_i b rt p u lo n y' t t2;obtain ⟨x, y, rfl, hx, hy⟩ := zu6 hm;have e := vf hts; subst e;split at h
  ·rename_i e el ob hu hb;cases hc : yV P e u with
   | false => rw [hc] at h; cases h
   | true =>
    rw [hc] at h;simp only [cond_true] at h;rw [<- hy] at h;obtain ⟨m', h1, h2, h3, h4⟩ := yk3 hw h;have hob := hw.H _ (kH hb);obtain ⟨o', k1, k2⟩ := ykg hob h2 h1;have hblt : b < σ.H.length := (kM.1 hb).1;refine ⟨b, el, o', k1, k2.wf, hblt, fun N hN => ?_⟩
    have ex : σ.flat.eval x = .sl b (rt.off p + lo * u.size) n u.size := by rw [zm hx (by simp)]; simp only [TV.pv]
    have hstep := yrq (P := P) (σ := σ.flat) (N := fun τ => τ = ({ σ.flat with H := σ.flat.H.set b (.row (splice ob.cells (rt.off p + lo * u.size) ((zI u m').take (min m'.length n * u.size))) el) } : AS).put o.dst (.val (.int .i64 (min m'.length n : Nat)))) ho hu (jN hc).2 ex (zmr hb) k2.le (h4 σ.flat.H fun _ _ => rfl) rfl
    intro c a w K Q hr hK;refine hstep c a w K Q hr fun c' a' w' τ hτ hr' hx' hd => hK c' a' w' _ hN ?_ hx' hd
    subst hτ;have hblf : b < σ.flat.H.length := by simpa [TS.flat] using hblt
    have putH : ∀ (τ : AS) (p : PV), (τ.put o.dst p).H = τ.H /\ (τ.put o.dst p).ts = τ.ts /\ (τ.put o.dst p).n = τ.n := fun τ p => by cases o.dst <;> exact ⟨rfl, rfl, rfl⟩
    refine ⟨?_, ?_⟩
    ·have g := hr'.1;rw [(putH _ _).1, (putH _ _).2.1] at g ⊢;refine Good.le g (by simp) fun i o1 o2 e1 e2 => ?_
     by_cases hi : b = i
     ·subst hi;rw [k9 hblf] at e1 e2;cases e1; cases e2;exact ⟨rfl, k2.cells, k2.leafs⟩
     ·rw [kt hi] at e1 e2;rw [e1] at e2; cases e2;exact yf3 hw.H _ (kH e1)
    ·have hs := hr'.2;cases hdd : o.dst with
     | none => rw [hdd] at hs; exact hs
     | some d =>
      rw [hdd] at hs;refine ⟨hs.1, fun t q hl hlt => ?_⟩
      simp only [AS.put, Ab.look] at hl;cases hbd : kC d t with
      | true =>
       rw [hbd] at hl;simp only [cond_true, Option.some.injEq] at hl;subst hl;have := kB hbd;subst this;have hsz : d < a'.tmps.size := by rw [hs.1]; exact hlt
       exact ⟨a'.tmps[d], by simp [hsz], zla _⟩
      | false =>
       rw [hbd] at hl;have := hs.2 t q (by simp only [AS.put, Ab.look, hbd, cond_false]; exact hl) hlt
       exact this
  ·cases h
 ·cases h
theorem yud {el : TypeId} {cells : List PV} {o' : Ob} (hw : σ.wf) (hblt : b < σ.H.length) (hce : CLe cells o'.cells) (hlf : zu o'.cells) {q : PV} (hq : ∀ (c : Cx) (w : World) (v : Value), VR w c q v -> True)
  (hstep : Step P o σ.flat (fun τ => τ = ({ σ.flat with H := σ.flat.H.set b (.row cells el) } : AS).put o.dst q)) : ∀ N : AS -> Prop, N (({ σ.flat with H := σ.flat.H.set b (.row o'.cells el) } : AS).put o.dst .dead) -> Step P o σ.flat N := by
    intro N hN;intro c a w K Q hr hK;refine hstep c a w K Q hr fun c' a' w' τ hτ hr' hx' hd => hK c' a' w' _ hN ?_ hx' hd
    subst hτ;have hblf : b < σ.flat.H.length := by simpa [TS.flat] using hblt
    have putH : ∀ (τ : AS) (p : PV), (τ.put o.dst p).H = τ.H /\ (τ.put o.dst p).ts = τ.ts /\ (τ.put o.dst p).n = τ.n := fun τ p => by cases o.dst <;> exact ⟨rfl, rfl, rfl⟩
    refine ⟨?_, ?_⟩
    ·have g := hr'.1;rw [(putH _ _).1, (putH _ _).2.1] at g ⊢;refine Good.le g (by simp) fun i o1 o2 e1 e2 => ?_
     by_cases hi : b = i
     ·subst hi;rw [k9 hblf] at e1 e2;cases e1; cases e2;exact ⟨rfl, hce, hlf⟩
     ·rw [kt hi] at e1 e2;rw [e1] at e2; cases e2;exact yf3 hw.H _ (kH e1)
    ·have hs := hr'.2;cases hdd : o.dst with
     | none => rw [hdd] at hs; exact hs
     | some d =>
      rw [hdd] at hs;refine ⟨hs.1, fun t q hl hlt => ?_⟩
      simp only [AS.put, Ab.look] at hl;cases hbd : kC d t with
      | true =>
       rw [hbd] at hl;simp only [cond_true, Option.some.injEq] at hl;subst hl;have := kB hbd;subst this;have hsz : d < a'.tmps.size := by rw [hs.1]; exact hlt
       exact ⟨a'.tmps[d], by simp [hsz], zla _⟩
      | false =>
       rw [hbd] at hl;have := hs.2 t q (by simp only [AS.put, Ab.look, hbd, cond_false]; exact hl) hlt
       exact this
def yi1 (P : Program) (σ : TS) (xs : List TV) (ts : List TypeId) (k : Nat -> TypeId -> Ob -> Option R) : Option R :=
 match xs, ts with
 | [.os b r p u lo n], [t] => match P.underlying t, σ.H[b]? with
  | some (.slice e), some (.ob el o) => match z1j P e with
   | some z => bif yV P e u && !kC u.size 0 && kC z.length u.size && u.solid && zei z (zr u (z02 u)) && z.all leaf then
     yd3 o r p u (fun l k => bif kR (zc6 lo n) (kE l) then k (z1y l lo n (kA n (z02 u))) else none) fun o' => k b el o' else none
   | none => none
  | _, _ => none
 | _, _ => none
theorem yvn {xs : Array Operand} {a : TV} (h : xs.toList.map σ.eval = [a]) : ∃ x, xs = #[x] /\ σ.eval x = a := by
 rcases xs with ⟨l⟩
 match l with
 | [] => simp at h
 | [x] => exact ⟨x, rfl, by simpa using h⟩
 | _ :: _ :: _ => simp at h
theorem ymu {cs q q' : List PV} {off : Nat} (h : CLe q q') : CLe (splice cs off q) (splice cs off q') := by
 unfold splice;rw [h.1];exact CLe.append (CLe.append (CLe.refl _) h) (CLe.refl _)
theorem yn8 {xs : Array Operand} {ts : Array TypeId} {k : Nat -> TypeId -> Ob -> Option R} {r : R} (ho : o.op = .call { callee := .builtin .clear, args := xs, argTypes := ts }) (hw : σ.wf)
  (h : yi1 P σ (xs.toList.map σ.eval) ts.toList k = some r) : ∃ b e ob', k b e ob' = some r /\ CopyOK P o σ b e ob' := by
 unfold yi1 at h;generalize hm : xs.toList.map σ.eval = m at h;generalize hts : ts.toList = l at h;split at h
 ·rename_i b rt p u lo n t;obtain ⟨x, rfl, hx⟩ := yvn hm;have e := vf hts; subst e;split at h
  ·rename_i e el ob hu hb;split at h
   ·rename_i z hz;cases hc : yV P e u && !kC u.size 0 && kC z.length u.size && u.solid && zei z (zr u (z02 u)) && z.all leaf with
    | false => rw [hc] at h; cases h
    | true =>
     rw [hc] at h;simp only [kD, ko] at hc;obtain ⟨⟨⟨⟨⟨c2, c4⟩, c5⟩, c6⟩, c7⟩, c8⟩ := hc;simp only [cond_true] at h;have hzw := zmm u c6;have hwr : ∀ y, y ∈ kA n (z02 u) -> wfU u y := fun y hy => by rw [kW hy]; exact hzw
     have hob := hw.H _ (kH hb);obtain ⟨o', k1, k2⟩ := ykg hob hwr h;have hblt : b < σ.H.length := (kM.1 hb).1;have ex : σ.flat.eval x = .sl b (rt.off p + lo * u.size) n u.size := by rw [zm hx (by simp)]; simp only [TV.pv]
     have hzl : zu z := fun p hp => kV.1 c8 p hp
     have hstep := yox (P := P) (σ := σ.flat) (N := fun τ => τ = ({ σ.flat with H := σ.flat.H.set b (.row (splice ob.cells (rt.off p + lo * u.size) (kA n z).flatten) el) } : AS).put o.dst .dead) ho hu hz (kB c5) hzl (fun e0 => by rw [e0] at c4; simp at c4) ex (zmr hb) k2.le rfl
     have hrow : (zI u (kA n (z02 u))).take (min (kA n (z02 u)).length n * u.size) = (kA n (zr u (z02 u))).flatten := by
      rw [<- y0y, List.take_of_length_le];rw [vq hwr, ka, Nat.min_self];exact kO _
     have hce := k2.cells;rw [hrow] at hce;exact ⟨b, el, o', k1, k2.wf, hblt, yud hw hblt (CLe.trans (ymu (zmn (zjr c7) n)) hce) k2.leafs (fun _ _ _ _ => trivial) hstep⟩
   ·cases h
  ·cases h
 ·cases h
def zlg (b : Nat) : Nat -> Fate := fun i => bif kC i b then .gone else .to i
theorem yev (b : Nat) : (fun i => (zlg b i).name) = vr b := by
 funext i;simp only [zlg, vr];cases kC i b <;> rfl
def Ob.mv (g : Nat -> Fate) : Ob -> Ob
 | .var t => .var (t.mv g)
 | .row u l => .row u l
def TOb.mv (g : Nat -> Fate) : TOb -> TOb
 | .ob e o => .ob e (o.mv g)
 | .gone => .gone
theorem ztt {f : Nat -> Option Nat} (p : PV) : cellsOf (p.ren f) = vo f (cellsOf p) := by
 have one : ∀ q : PV, vo f [q] = [q.ren f] := fun q => by simp only [vo]
 cases p <;> first | (simp only [PV.ren, cellsOf, one]; done) | skip
 ·rename_i b off; simp only [PV.ren]; split <;> simp_all only [cellsOf, vo, PV.ren]
 ·rename_i b off len sz; simp only [PV.ren]; split <;> simp_all only [cellsOf, vo, PV.ren]
theorem ylc (f : Nat -> Option Nat) (a b : List PV) : vo f (a ++ b) = vo f a ++ vo f b := by simp [y0x]
mutual
theorem zyi {g : Nat -> Fate} (hg : ∀ b o, g b ≠ .fz o) : ∀ t : TV, t.wf -> (t.mv g).pv = t.pv.ren fun b => (g b).name
 | .v u x, h => by
  simp only [TV.wf] at h;simp only [TV.mv, TV.pv, (yqw h).1]
 | .ptr b r p, _ => by
  simp only [TV.mv, TV.pv, PV.ren];cases hb : g b with
  | to j => simp only [Fate.name, TV.pv]
  | gone => simp only [Fate.name, TV.pv]
  | fz o => exact absurd hb (hg b o)
 | .os b r p u lo n, _ => by
  simp only [TV.mv, TV.pv, PV.ren];cases hb : g b with
  | to j => simp only [Fate.name, TV.pv]
  | gone => simp only [Fate.name, TV.pv]
  | fz o => exact absurd hb (hg b o)
 | .rf t, h => by
  simp only [TV.wf] at h;simp only [TV.mv, TV.pv, PV.ren, zyi hg t h.1, ztt]
 | .agg ts, h => by
  simp only [TV.wf] at h;simp only [TV.mv, TV.pv, PV.ren, ym3 hg ts h.2.1]
 | .tup ts, h => by
  simp only [TV.wf] at h;simp only [TV.mv, TV.pv, PV.ren, y9o hg ts h]
 | .fn f ts, h => by
  simp only [TV.wf] at h;simp only [TV.mv, TV.pv, PV.ren, y9o hg ts h]
 | .ifc t x, h => by
  simp only [TV.wf] at h;simp only [TV.mv, TV.pv, PV.ren, zyi hg x h]
 | .fsl u l, h => by
  simp only [TV.wf] at h;simp only [TV.mv, TV.pv, PV.ren, vp (jL h)]
 | .osf u l lo n, h => by
  simp only [TV.wf] at h;have hp : yX (List.take (n * u.size) (List.drop (lo * u.size) (zI u l))) := qi.2 fun p hp => qi.1 (jL h) p (ku (kU hp))
  simp only [TV.mv, TV.pv, PV.ren, vp hp]
 | .nil, _ => by simp only [TV.mv, TV.pv, PV.ren, vo]
 | .one, _ | .nilp, _ | .nilf, _ | .yl _, _ | .nili, _ | .nilm, _ | .dead, _ => by simp only [TV.mv, TV.pv, PV.ren]
theorem ym3 {g : Nat -> Fate} (hg : ∀ b o, g b ≠ .fz o) : ∀ ts : List TV, TV.wfs ts -> TV.cellsL (mvs g ts) = vo (fun b => (g b).name) (TV.cellsL ts)
 | [], _ => rfl
 | t :: ts, h => by
  simp only [TV.wfs] at h;simp only [mvs, TV.cellsL, zyi hg t h.1, ztt, ym3 hg ts h.2, ylc]
theorem y9o {g : Nat -> Fate} (hg : ∀ b o, g b ≠ .fz o) : ∀ ts : List TV, TV.wfs ts -> TV.pvs (mvs g ts) = vo (fun b => (g b).name) (TV.pvs ts)
 | [], _ => rfl
 | t :: ts, h => by
  simp only [TV.wfs] at h;simp only [mvs, TV.pvs, vo, zyi hg t h.1, y9o hg ts h.2]
end
theorem zxl (b : Nat) : ∀ i o, zlg b i ≠ .fz o := fun i o => by
 simp only [zlg];cases kC i b <;> simp
theorem yo1 {o : TOb} (hw : o.wf) : (o.mv (zlg b)).flat = o.flat.ren (vr b) /\ (o.mv (zlg b)).wf := by
 cases o with
 | gone => exact ⟨rfl, trivial⟩
 | ob e o =>
  cases o with
  | row u l => exact ⟨by simp only [TOb.mv, Ob.mv, TOb.flat, AObj.ren, Ob.cells, vp (jL hw)], hw⟩
  | var t =>
   have h1 := zyi (zxl b) t hw.1;rw [yev] at h1;refine ⟨?_, ?_⟩
   ·simp only [TOb.mv, Ob.mv, TOb.flat, AObj.ren, Ob.cells, TV.cells, h1, ztt]
   ·have := zjl (fun b' o' h => absurd h (zxl b b' o')) t hw.1
    exact ⟨this.1, this.2 hw.2⟩
def zzq (b : Nat) (l : List (Nat × TV)) : List (Nat × TV) := l.map fun x => (x.1, x.2.mv (zlg b))
theorem yew : ∀ {b : Nat} {l : List (Nat × TV)} {t : Nat}, xh (zzq b l) t = (xh l t).map (TV.mv (zlg b))
 | b, [], t => rfl
 | b, (s, v) :: l, t => by
  simp only [zzq, kI, xh];cases kC s t with
  | true => rfl
  | false => exact yew
def ys2 (P : Program) (t t2 : TypeId) (u : U) (l : List u.T) (y : TV) (k : List u.T -> Option R) : Option R :=
 match P.underlying t, P.underlying t2, y with
 | some (.slice e), some (.int _), .v (.int .i64) n => match z1j P e, (P.info? e).map (·.bytes) with
  | some z, some nb => bif yV P e u && !kC nb 0 && !kC u.size 0 && kC z.length u.size && u.solid && zei z (zr u (z02 u)) && z.all leaf && leI 1 n then qL l.length n.toNat nb fun _ => k (kA n.toNat (z02 u)) else none
  | _, _ => none
 | _, _, _ => none
def yum (P : Program) (t2 : TypeId) : Bool :=
 match P.underlying t2 with
 | some (.int _) => true
 | _ => false
def ymz (P : Program) (σ : TS) (xs : List TV) (ts : List TypeId) (k : Nat -> TypeId -> (u : U) -> List u.T -> Option R) : Option R :=
 match xs, ts with
 | [.os b r [] u 0 n, y], [t, t2] => match σ.H[b]? with
  | some (.ob e (.row u' l)) => bif r.beq (.row u'.canon) && kR σ.p b && (match P.underlying t with | some (.slice e') => kC e' e | _ => false) && u.beq u' then
    (bif kC n (kE l) then (bif yum P t2 then ys2 P t t2 u' l y fun m => k b e u' (l ++ m) else zgy P σ.H t t2 u' l y fun m => k b e u' (l ++ m)) else none) else none
  | _ => none
 | _, _ => none
structure AppendOK (P : Program) (o : Oper) (σ : TS) (b : Nat) (e : TypeId) (u : U) (l : List u.T) : Prop where
 wf : ∀ x, x ∈ l -> wfU u x
 step : ∀ N : TS -> Prop, N { σ with slots := (match o.dst with | some d => [(d, .os σ.H.length (.row u.canon) [] u 0 l.length)] | none => []) ++ zzq b σ.slots, H := (σ.H.set b .gone).map (TOb.mv (zlg b)) ++ [.ob e (.row u l)] } -> ze4 P o σ N
theorem ys7 {xs : Array Operand} {ts : Array TypeId} {k : Nat -> TypeId -> (u : U) -> List u.T -> Option R} {r : R} (ho : o.op = .call { callee := .builtin .append, args := xs, argTypes := ts }) (hw : σ.wf)
  (h : ymz P σ (xs.toList.map σ.eval) ts.toList k = some r) : ∃ b e u l, k b e u l = some r /\ AppendOK P o σ b e u l := by
 unfold ymz at h;generalize hm : xs.toList.map σ.eval = m at h;generalize hts : ts.toList = tl at h;split at h
 ·rename_i b rt u n y' t t2;obtain ⟨x, y, rfl, hx, hy⟩ := zu6 hm;have e := vf hts; subst e;split at h
  ·rename_i e u' l hb;cases hc : rt.beq (.row u'.canon) && kR σ.p b && (match P.underlying t with | some (.slice e') => kC e' e | _ => false) && u.beq u' with
   | false => rw [hc] at h; cases h
   | true =>
    rw [hc] at h;simp only [kD] at hc;obtain ⟨⟨⟨c1, c2⟩, c3⟩, c4⟩ := hc;have e1 := Rt.beq_eq c1;subst e1;have e2 := kL c2;have e4 := U.beq_eq c4;subst e4;simp only [cond_true] at h;cases hn : kC n (kE l) with
    | false => rw [hn] at h; cases h
    | true =>
     rw [hn] at h;have e5 := kB hn;subst e5;simp only [cond_true] at h;have hwl : ∀ z, z ∈ l -> wfU u z := hw.H _ (kH hb);have fin : ∀ (m' : List u.T), k b e u (l ++ m') = some r -> (∀ z, z ∈ m' -> wfU u z) -> (∀ (c : Cx) (a : Act) (w : World) (K : Act -> World -> Prop) (Q : Exit -> Act -> World -> Prop), RelC w c σ.flat a -> c.pn <= b ->
       (∀ v w' c2, Ab.Good w' c2 ((σ.flat.H.set b .gone).map (AObj.ren (vr b)) ++ [.row (vo (vr b) (zI u l ++ zI u m')) e]) [] -> VR w' c2 (.sl σ.flat.H.length 0 (l.length + m'.length) u.size) v -> ExtP c.pn w c w' c2 -> Mv (vr b) w c w' c2 -> K (a.put o.dst v) w') -> o.wp P a w K Q) ->
       ∃ b e u l, k b e u l = some r /\ AppendOK P o σ b e u l := by
      intro m' h1 hwm W;have hall : ∀ z, z ∈ l ++ m' -> wfU u z := fun z hz => (kG.1 hz).elim (hwl z) (hwm z)
      refine ⟨b, e, u, l ++ m', h1, hall, fun N hN => ?_⟩
      intro c a w K Q hr hK;refine W c a w K Q hr.2 (by rw [hr.1]; exact e2) fun v w' c2 hg hv hxp hmv => ?_
      have hpn : c2.pn = σ.p := by rw [hxp.pn, hr.1]
      refine hK c2 _ w' _ hN ⟨fun z hz => ?_, fun q hq => ?_⟩ ⟨hpn, ?_, ?_⟩ (hr.1 ▸ hxp) (Act.put_defers' _ _ _)
      ·rcases kG.1 hz with hz | hz
       ·cases hd : o.dst with
        | none => rw [hd] at hz; cases hz
        | some d => rw [hd] at hz; simp at hz; subst hz; simp only [TV.wf]
       ·simp only [zzq, kJ] at hz;obtain ⟨z', hz', rfl⟩ := hz;exact (zjl (fun b' o' h => absurd h (zxl b b' o')) _ (hw.slots _ hz')).1
      ·rcases kG.1 hq with hq | hq
       ·simp only [kJ] at hq;obtain ⟨q', hq', rfl⟩ := hq;refine (yo1 ?_).2;rcases kN hq' with hq' | hq'
        ·exact hw.H _ hq'
        ·rw [hq']; trivial
       ·simp only [kK] at hq; subst hq; exact hall
      ·have eH : (σ.H.set b TOb.gone).map (fun o => (o.mv (zlg b)).flat) = ((σ.H.map TOb.flat).set b .gone).map (AObj.ren (vr b)) := by
        rw [<- show TOb.flat .gone = AObj.gone from rfl, <- lC, List.map_map]
        refine List.map_congr_left fun q hq => ?_
        refine (yo1 ?_).1;rcases kN hq with hq | hq
        ·exact hw.H _ hq
        ·rw [hq]; trivial
       have hg' := hg;simp only [TS.flat] at hg' ⊢;rw [List.map_append, List.map_map];have e6 : vo (vr b) (zI u l ++ zI u m') = zI u (l ++ m') := by
        rw [<- zxa, vp (jL hall)]
       rw [e6] at hg';rw [show (TOb.flat ∘ TOb.mv (zlg b)) = fun o => (o.mv (zlg b)).flat from rfl, eH]
       exact hg'
      ·have hsz : (a.put o.dst v).tmps.size = σ.n := by
        have := hr.2.2.1;cases o.dst with
        | none => exact this
        | some d => simp only [Act.put, Array.size_setIfInBounds]; exact this
       refine ⟨hsz, fun t0 q hl hlt => ?_⟩
       simp only [TS.flat] at hl hlt;rw [z84] at hl;have old : ∀ z, xh (zzq b σ.slots) t0 = some z -> ∃ v0, a.tmps[t0]? = some v0 /\ VR w' c2 z.pv v0 := fun z hz => by
        rw [yew] at hz;cases hz0 : xh σ.slots t0 with
        | none => rw [hz0] at hz; cases hz
        | some z0 =>
         rw [hz0] at hz;simp only [kS, Option.some.injEq] at hz;subst hz;obtain ⟨v0, k1, k2⟩ := hr.2.2.2 t0 z0.pv (by simp only [TS.flat]; rw [z84, hz0]; rfl) hlt
         obtain ⟨zz, k3, k4⟩ := zic hz0;have hwz : z0.wf := k4 ▸ hw.slots _ k3;refine ⟨v0, k1, ?_⟩;rw [zyi (zxl b) z0 hwz, yev];exact VR.move hmv _ k2
       cases hd : o.dst with
       | none =>
        rw [hd] at hl;simp only [List.nil_append] at hl;cases hz : xh (zzq b σ.slots) t0 with
        | none => rw [hz] at hl; cases hl
        | some z =>
         rw [hz] at hl;simp only [kS, Option.some.injEq] at hl;subst hl;exact old z hz
       | some d =>
        rw [hd] at hl;simp only [List.cons_append, List.nil_append, xh] at hl;simp only [Act.put];cases hbd : kC d t0 with
        | true =>
         rw [hbd] at hl;simp only [cond_true, kS, Option.some.injEq] at hl;subst hl;have := kB hbd;subst this;have hsz0 : d < a.tmps.size := by rw [hr.2.2.1]; exact hlt
         refine ⟨v, by rw [Array.getElem?_setIfInBounds_self_of_lt hsz0], ?_⟩
         simp only [TV.pv, Rt.off, kY, kQ, ki];have hv' := hv;simp only [TS.flat, kz] at hv';exact hv'
        | false =>
         rw [hbd] at hl;simp only [cond_false] at hl;have hne : d ≠ t0 := fun e => by rw [e, Nat.beq_refl] at hbd; cases hbd
         cases hz : xh (zzq b σ.slots) t0 with
         | none => rw [hz] at hl; cases hl
         | some z =>
          rw [hz] at hl;simp only [kS, Option.some.injEq] at hl;subst hl;obtain ⟨v0, k1, k2⟩ := old z hz;exact ⟨v0, by rw [Array.getElem?_setIfInBounds_ne hne]; exact k1, k2⟩
     have ex : σ.flat.eval x = .sl b 0 l.length u.size := by rw [zm hx (by simp)]; simp only [TV.pv, Rt.off, kY, kQ]
     cases hi : yum P t2 with
     | false =>
      rw [hi, cond_false, <- hy] at h;obtain ⟨m', e', nb, h1, h2⟩ := zok hw h;have hty := h2.ty;rw [hty] at c3;have := kB c3;subst this;exact fin m' h1 h2.wf fun c a w K Q hr hpn hK => yp5 (P := P) (σ := σ.flat) ho hty h2.el h2.src ex (zmr hb) (vq hwl) (h2.srcN σ.flat.H fun _ _ => rfl).ok h2.le hr rfl hpn hK
     | true =>
      rw [hi, cond_true] at h;unfold ys2 at h;split at h
      ·rename_i e0 kn n hu ht2;rw [hu] at c3;have := kB c3;subst this;split at h
       ·rename_i z nb hz hnb;cases hc : yV P e0 u && !kC nb 0 && !kC u.size 0 && kC z.length u.size && u.solid && zei z (zr u (z02 u)) && z.all leaf && leI 1 n with
        | false => rw [hc] at h; cases h
        | true =>
         rw [hc] at h;simp only [kD, ko] at hc;obtain ⟨⟨⟨⟨⟨⟨⟨d1, d2⟩, d3⟩, d4⟩, d5⟩, d6⟩, d7⟩, d8⟩ := hc;simp only [cond_true, qL] at h;cases hg : kR ((l.length + n.toNat) * nb) 140737488355328 with
         | false => rw [hg] at h; cases h
         | true =>
          rw [hg, cond_true] at h;have hle := kL hg;have hn1 : 1 <= n := by simpa [leI] using d8
          obtain ⟨m, rfl⟩ : ∃ m : Nat, n = (m : Int) := ⟨Int.toNat n, (Int.toNat_of_nonneg (Int.le_trans (by decide) hn1)).symm⟩
          simp only [Int.toNat_natCast] at h hle;have hu0 : u.size ≠ 0 := fun e => by rw [e] at d3; cases d3
          have hel : ElemT P e0 u.size nb := ⟨(jN d1).2, hnb, fun e => by rw [e] at d2; simp at d2, z, hz, kB d4⟩
          have hzw := zmm u d5;have hwr : ∀ y, y ∈ kA m (z02 u) -> wfU u y := fun y hy => by rw [kW hy]; exact hzw
          refine fin _ h hwr fun c a w K Q hr hpn hK => ?_
          have hyv' : a.eval y = .int .i64 m := by
           have hev := hr.2.eval y;rw [zm (t := .v (.int .i64) (m : Int)) hy (by simp)] at hev
           simp only [TV.pv, pvU, VR] at hev;exact hev.1
          have hmb : m * nb <= 2 ^ 47 := by
           rw [kv] at hle; omega
          obtain ⟨us, q1, q2, q3⟩ := yuh (w := w) (k := .i64) hu hel ht2 hz (kB d4) (by have : (1 : Int) <= (m : Int) := hn1; omega : 0 < m) hu0 hmb
          have hcl : CLe (kA m z).flatten (zI u (kA m (z02 u))) := by
           rw [y0y];exact zmn (zjr d6) _
          refine yd6 (P := P) (σ := σ.flat) (m := m) (nb := nb) ho hu hel ex (zmr hb) (vq hwl) (by rw [vq hwr, ka]) (xL hwr) ⟨us, q1, z2o ⟨_, _, hr.1⟩ hcl (q2 c), by rw [hyv']; exact q3⟩ (by omega) hr rfl hpn ?_
          rw [ka] at hK;exact hK
       ·cases h
      ·cases h
  ·cases h
 ·cases h
structure EEnt where
 f : FuncId
 ok : TS -> List TV -> Bool
 run : {R : Type} -> TS -> List TV -> (TS -> TV -> Option R) -> Option R
structure EDoes {R : Type} (P : Program) (f : FuncId) (σ : TS) (args : List TV) (k : TS -> TV -> Option R) (r : R) : Prop where
 can : z4i P f = true
 wf : ∃ σ' t, k σ' t = some r /\ σ'.wf /\ t.wf
 calls : ∀ c w a (vs : Array Value), RelT w c σ a -> vs.size = args.length -> VRs w c (args.map TV.pv) (fun i => vs[i]?) ->
  Calls P f vs w fun ed w' => ∃ v σ' t c', ed = .returned v /\ k σ' t = some r /\ σ'.wf /\ t.wf /\ σ'.n = σ.n /\ RelT w' c' σ' a /\ VR w' c' t.pv v /\ ExtP σ.p w c w' c'
def zrv (P : Program) (e : EEnt) : Prop := ∀ (R : Type) (σ : TS) (args : List TV) (k : TS -> TV -> Option R) (r : R), σ.wf -> (∀ a, a ∈ args -> a.wf) -> e.run σ args k = some r -> EDoes P e.f σ args k r
structure DEnt where
 f : FuncId
 ok : TS -> List TV -> Bool
 run : {R : Type} -> TS -> List TV -> (TV -> List (Nat × TypeId × Ob) -> Nat -> List Nat -> Option R) -> Option R
def z4r (us : List (Nat × TypeId × Ob)) : List (Nat × List PV × TypeId) := us.map fun u => (u.1, u.2.2.cells, u.2.1)
def zod (us : List (Nat × TypeId × Ob)) (H : List TOb) : List TOb := us.foldl (fun H u => H.set u.1 (.ob u.2.1 u.2.2)) H
theorem y8m : ∀ (us : List (Nat × TypeId × Ob)) (H : List TOb), (zod us H).map TOb.flat = D.setAll (z4r us) (H.map TOb.flat)
 | [], _ => rfl
 | u :: us, H => by
  show (zod us (H.set u.1 _)).map TOb.flat = D.setAll (z4r us) ((H.map TOb.flat).set u.1 _);rw [y8m us, lC]; rfl
theorem yfx : ∀ (us : List (Nat × TypeId × Ob)) {H : List TOb}, (∀ u, u ∈ us -> u.2.2.wf) -> (∀ o, o ∈ H -> o.wf) -> ∀ o, o ∈ zod us H -> o.wf
 | [], _, _, h => h
 | u :: us, H, hu, h => by
  show ∀ o, o ∈ zod us (H.set u.1 _) -> o.wf;refine yfx us (fun x hx => hu x (by simp [hx])) fun o ho => ?_
  rcases kN ho with ho | rfl
  ·exact h o ho
  ·exact hu u (by simp)
structure DDoes (P : Program) (f : FuncId) (σ : TS) (args : List TV) (t : TV) (us : List (Nat × TypeId × Ob)) (q : Nat) (L : List Nat) : Prop where
 can : z4i P f = true
 wf : t.wf
 uwf : ∀ u, u ∈ us -> u.2.2.wf
 lt : ∀ b, b ∈ us.map (·.1) ++ L -> b < σ.H.length + q
 has : ∀ j, j < q -> σ.H.length + j ∈ us.map (·.1) ++ L
 calls : ∀ (Y : List AObj) w c (vs : Array Value), (∀ b, b ∈ us.map (·.1) ++ L -> b < σ.H.length -> Y[b]? = σ.flat.H[b]?) -> (∀ j, j < q -> Y[σ.H.length + j]? = some .gone) -> Ab.Good w c Y [] -> vs.size = args.length -> VRs w c (args.map TV.pv) (fun i => vs[i]?) ->
  Calls P f vs w fun ed w' => ∃ v c', ed = .returned v /\ VR w' c' t.pv v /\ Ab.Good w' c' (D.setAll (z4r us) Y) [] /\ Ext w c w' c'
def zru (P : Program) (e : DEnt) : Prop := ∀ (R : Type) (σ : TS) (args : List TV) (k : TV -> List (Nat × TypeId × Ob) -> Nat -> List Nat -> Option R) (r : R), σ.wf -> (∀ a, a ∈ args -> a.wf) -> e.run σ args k = some r -> ∃ t us q L, k t us q L = some r /\ DDoes P e.f σ args t us q L
def y3u {R : Type} (D : List DEnt) (f : FuncId) (σ : TS) (args : List TV) (k : TV -> List (Nat × TypeId × Ob) -> Nat -> List Nat -> Option R) : Option R :=
 match D with
 | [] => none
 | e :: D => bif kC e.f f && e.ok σ args then e.run σ args k else y3u D f σ args k
theorem y7u {R : Type} {P : Program} : ∀ {D : List DEnt} {f : FuncId} {σ : TS} {args : List TV} {k : TV -> List (Nat × TypeId × Ob) -> Nat -> List Nat -> Option R} {r : R}, (∀ e, e ∈ D -> zru P e) -> σ.wf -> (∀ a, a ∈ args -> a.wf) -> y3u D f σ args k = some r -> ∃ t us q L, k t us q L = some r /\ DDoes P f σ args t us q L
 | [], _, _, _, _, _, _, _, _, h => by simp [y3u] at h
 | e :: D, f, σ, args, k, r, hD, hw, ha, h => by
  simp only [y3u] at h;cases hc : kC e.f f && e.ok σ args with
  | true =>
   rw [hc] at h;simp only [kD] at hc;have := kB hc.1;subst this;exact hD e (by simp) R σ args k r hw ha h
  | false => rw [hc] at h; exact y7u (fun x hx => hD x (by simp [hx])) hw ha h
structure Env where
 E : List Ent
 F : List EEnt
 D : List DEnt
structure EnvsOK (P : Program) (V : Env) : Prop where
 E : zzj P V.E
 F : ∀ e, e ∈ V.F -> zrv P e
 D : ∀ e, e ∈ V.D -> zru P e
theorem zf (P : Program) : ∀ e, e ∈ ([] : List DEnt) -> zru P e := fun _ h => by cases h
theorem ypu {e : DEnt} {F : List DEnt} (h : zru P e) (g : ∀ e, e ∈ F -> zru P e) : ∀ x, x ∈ e :: F -> zru P x := fun x hx => by
 rcases kZ.1 hx with rfl | hx
 ·exact h
 ·exact g x hx
theorem zg (P : Program) : ∀ e, e ∈ ([] : List EEnt) -> zrv P e := fun _ h => by cases h
theorem zy {e : EEnt} {F : List EEnt} (h : zrv P e) (g : ∀ e, e ∈ F -> zrv P e) : ∀ x, x ∈ e :: F -> zrv P x := fun x hx => by
 rcases kZ.1 hx with rfl | hx
 ·exact h
 ·exact g x hx
def y3v {R : Type} (F : List EEnt) (f : FuncId) (σ : TS) (args : List TV) (k : TS -> TV -> Option R) : Option R :=
 match F with
 | [] => none
 | e :: F => bif kC e.f f && e.ok σ args then e.run σ args k else y3v F f σ args k
theorem y7v {R : Type} {P : Program} : ∀ {F : List EEnt} {f : FuncId} {σ : TS} {args : List TV} {k : TS -> TV -> Option R} {r : R}, (∀ e, e ∈ F -> zrv P e) -> σ.wf -> (∀ a, a ∈ args -> a.wf) -> y3v F f σ args k = some r -> EDoes P f σ args k r
 | [], _, _, _, _, _, _, _, _, h => by simp [y3v] at h
 | e :: F, f, σ, args, k, r, hF, hw, ha, h => by
  simp only [y3v] at h;cases hc : kC e.f f && e.ok σ args with
  | true =>
   rw [hc] at h;simp only [kD] at hc;have := kB hc.1;subst this;exact hF e (by simp) R σ args k r hw ha h
  | false => rw [hc] at h; exact y7v (fun x hx => hF x (by simp [hx])) hw ha h
def yal (E : List Ent) (f : FuncId) (H : List TOb) (args : List TV) : Bool :=
 match E with
 | [] => false
 | e :: E => (kC e.f f && e.ok H args) || yal E f H args
def yqm : List TV -> Bool
 | .os _ _ _ _ _ _ :: _ => true
 | _ => false
theorem yq1 {k n : Nat} {vs : Array Value} {fr : Nat × Nat} (h : w.heap[k]? = some (.cells vs e fr)) : (w.freeze ⟨k, n, none⟩ 1).heap[k]? = some (.cells vs e (if fr.1 == fr.2 then (n, n + 1) else (min fr.1 n, max fr.2 (n + 1)))) := by
 obtain ⟨hlt, hk⟩ := kT.1 h;unfold World.freeze;rw [if_neg (by decide)]
 show (w.heap.modify k _)[k]? = _;rw [ke (by rw [km]; exact hlt), Array.getElem_modify_self, hk]
theorem zhx {k n k' : Nat} (h : k' ≠ k) : (w.freeze ⟨k, n, none⟩ 1).heap[k']? = w.heap[k']? := by
 unfold World.freeze;rw [if_neg (by decide)]
 show (w.heap.modify k _)[k']? = _
 by_cases hk : k' < w.heap.size
 ·rw [ke (by rw [km]; exact hk), Array.getElem_modify_of_ne (Ne.symm h), ke hk]
 ·rw [Array.getElem?_eq_none (by rw [km]; omega), Array.getElem?_eq_none (by omega)]
theorem yss {k n : Nat} : (w.freeze ⟨k, n, none⟩ 1).heap.size = w.heap.size := by
 unfold World.freeze;rw [if_neg (by decide)]
 show (w.heap.modify k _).size = _;rw [km]
theorem ynl {H : List AObj} {ts : List Bool} (g : Ab.Good w c H ts) {cs : List PV} (hb : H[b]? = some (.row cs e)) {k : Nat} (hk : c.m[b]? = some (some k)) {vs : Array Value} {fr : Nat × Nat} (h2 : w.heap[k]? = some (.cells vs e fr)) (hf : nofz fr vs.size) :
  Ab.Good (w.freeze ⟨k, vs.size, none⟩ 1) c H ts /\ Ext w c (w.freeze ⟨k, vs.size, none⟩ 1) c := by
 have hmem : some k ∈ c.m := List.mem_iff_getElem?.2 ⟨b, hk⟩;have hos : (w.freeze ⟨k, vs.size, none⟩ 1).os = w.os /\ (w.freeze ⟨k, vs.size, none⟩ 1).tape = w.tape /\ (w.freeze ⟨k, vs.size, none⟩ 1).output = w.output := by
  unfold World.freeze; rw [if_neg (by decide)]; exact ⟨rfl, rfl, rfl⟩
 have x : Ext w c (w.freeze ⟨k, vs.size, none⟩ 1) c :=
  {os := hos.1, tape := hos.2.1, output := hos.2.2, size := by rw [yss]; exact kO _
   ids := fun _ _ h => h, new := fun _ h => .inl h
   blocks := fun k' _ hm _ => zhx (fun e => hm (e ▸ hmem))
   cells := fun k' _ hm off' v' _ hv' => by rw [jm (zhx (fun e : k' = k => hm (e ▸ hmem)))]; exact hv'
   toks := fun i _ j h => .inr ⟨i, j, h, kO _⟩
   stay := fun i k' j _ h => ⟨h, zhx (fun e => (g.tok i k' j h).1 (e ▸ hmem))⟩
   room := fun k' vs' e' fr' h => by
    by_cases hkk : k' = k
    ·subst hkk;rw [h2] at h; cases h;exact ⟨_, _, yq1 h2, rfl⟩
    ·exact ⟨vs', fr', (zhx hkk).trans h, rfl⟩
   tlen := kO _, ok := rfl, pn := rfl }
 refine ⟨⟨g.len, g.inj, ?_, g.tl, g.tal, g.tdead, ?_, g.tinj, fun k e h => g.okn k e (lD x.size h), g.okm, g.okt, g.oko, g.gl.ext x⟩, x⟩
 ·intro b' o h
  by_cases hbb : b = b'
  ·subst hbb;rw [hb] at h;cases h;obtain ⟨vs0, fr0, k2, kf, k3, kl, k4⟩ := (g.obj b _ hb).row hk;rw [h2] at k2;cases k2;refine .inr ⟨k, vs, _, hk, yq1 h2, ?_, k3, kl, yI fun i q hq => ?_⟩
   ·rcases hf with hf | hf
    ·have : (fr.1 == fr.2) = true := by simp [hf]
     rw [this]; exact .inr (kO _)
    ·cases hc : fr.1 == fr.2 with
     | true => exact .inr (kO _)
     | false => exact .inr (Nat.le_min.2 ⟨hf, kO _⟩)
   ·obtain ⟨u, hu, hr⟩ := zQ k4 hq;exact ⟨u, hu, hr.ext x⟩
  ·have hne : ∀ k', c.m[b']? = some (some k') -> k' ≠ k := fun k' h' e => hbb (g.inj b b' k hk (e ▸ h'))
   exact (g.obj b' o h).pass x (fun k' h' => ⟨h', zhx (hne k' h')⟩) id
 ·intro i k' j h;obtain ⟨h1', vs', e', fr', h2', h3'⟩ := g.tok i k' j h;exact ⟨h1', vs', e', fr', (zhx (fun e : k' = k => h1' (e ▸ hmem))).trans h2', h3'⟩
theorem ytz {s e : TypeId} {x : Operand} {ρ : Operand -> Value} {k off len cap : Nat} {vs : Array Value} {et : TypeId} {fr : Nat × Nat} (ho : o.op = .convert s s x) (hs : P.underlying s = some (.slice e)) (he : P.underlying e = some (.int .u8))
  (hρ : ρ x = .slice (some ⟨k, off, none⟩) len cap) (h2 : w.heap[k]? = some (.cells vs et fr)) : (execOp ρ o).run P w = .ok (.value (ρ x)) (w.freeze ⟨k, vs.size, none⟩ 1) := by
 have hsh : (shape k).run P w = .ok (some (et, vs.size)) w := by simp [shape, Sem.run, World.shape?, h2]
 simp only [execOp, ho, hρ];simp [convert, run_underlying hs, run_underlying he, markStringish, kj, hsh, Result.andThen]
theorem yrm {N : TS -> Prop} {s : TypeId} {x : Operand} {r : Rt} {p : List Stp} {lo n : Nat} {ob : Ob} (ho : o.op = .convert s s x) (hw : σ.wf) (hs : znc P s = true) (hx : σ.eval x = .os b r p u lo n) (hn : lB 0 n = true) (hb : σ.H[b]? = some (.ob e ob)) (hN : N (σ.put o.dst (.os b r p u lo n))) : ze4 P o σ N := by
 intro c a w K Q hr hK;obtain ⟨e0, he1, he2⟩ := zwr hs;have hfv := hr.2.2.eval x;rw [zm hx (by simp)] at hfv
 have hv := hfv;simp only [TV.pv, VR] at hv;have hn0 : 0 < n := lE.mp hn;rcases hv with ⟨_, h0⟩ | ⟨k, cap, off', h1, h2, _, h3, vs0, e1, fr0, h4, h5⟩
 ·omega
 ·have hfb : σ.flat.H[b]? = some (.row ob.cells e) := by simp only [TS.flat, kw, hb, kS, TOb.flat]
  obtain ⟨vs, fr, k2, kf, k3, kl, k4⟩ := (hr.2.1.obj b _ hfb).row h1;obtain ⟨g', x'⟩ := ynl hr.2.1 hfb h1 k2 kf;unfold Oper.wp;rw [ytz ho he1 he2 h2 k2];have hr' : RelT (w.freeze ⟨k, vs.size, none⟩ 1) c σ a := ⟨hr.1, g', hr.2.2.ext x'⟩;refine hK c _ _ _ hN (jP hw _ (by have := zS hw x; rwa [hx] at this)) (zem _ hr' ?_) (zv3 hr.noT x') (Act.put_defers' _ _ _)
  exact hfv.ext x'
def yoo (P : Program) (s t : TypeId) (H : List TOb) : TV -> Bool
 | .os b _ _ _ _ n => kC s t && znc P s && lB 0 n && (match H[b]? with
  | some (.ob _ _) => true
  | _ => false)
 | _ => false
def yh8 (P : Program) (V : Env) (own : List Nat) (i : Nat) (o : Oper) (σ : TS) (k : TS -> Option R) : Option R :=
 bif zrl P own i o σ then yny P o σ fun pf e ob => k { σ.put o.dst (pf σ.H.length) with H := σ.H ++ [.ob e ob] } else
 match o.op with
 | .store t x y => match o.dst with
  | none => yct P o σ t x y fun b e ob' => k { σ with H := σ.H.set b (.ob e ob') }
  | some _ => none
 | .call { callee := .builtin .append, args := xs, argTypes := ts } =>
  bif yqm (xs.toList.map σ.eval) then ymz P σ (xs.toList.map σ.eval) ts.toList fun b e u l =>
   k { σ with slots := (match o.dst with | some d => [(d, .os σ.H.length (.row u.canon) [] u 0 (kE l))] | none => []) ++ zzq b σ.slots, H := (σ.H.set b .gone).map (TOb.mv (zlg b)) ++ [.ob e (.row u l)] }
  else zge P V.E o σ fun q => k (σ.put o.dst q)
 | .call { callee := .builtin .copy, args := xs, argTypes := ts } => ync P σ (xs.toList.map σ.eval) ts.toList fun b e ob' => k (TS.put { σ with H := σ.H.set b (.ob e ob') } o.dst .dead)
 | .call { callee := .builtin .clear, args := xs, argTypes := ts } => yi1 P σ (xs.toList.map σ.eval) ts.toList fun b e ob' => k (TS.put { σ with H := σ.H.set b (.ob e ob') } o.dst .dead)
 | .call { callee := .value fo, args := xs, argTypes := _ } => match σ.eval fo with
  | .fn f caps => bif yal V.E f σ.H (xs.toList.map σ.eval ++ caps) then zge P V.E o σ fun q => k (σ.put o.dst q)
   else y3v V.F f σ (xs.toList.map σ.eval ++ caps) fun σ' t => k (σ'.put o.dst t)
  | _ => none
 | .convert s t x => bif yoo P s t σ.H (σ.eval x) then k (σ.put o.dst (σ.eval x)) else zge P V.E o σ fun q => k (σ.put o.dst q)
 | _ => zge P V.E o σ fun q => k (σ.put o.dst q)
open Classical in
noncomputable def yaq (x y : Option R) : Option R := if x = y then x else none
noncomputable def yj4 (n : Nat) (k : Bool -> Option R) : Option R :=
 match n with
 | 0 => yaq (k true) (k false)
 | _ + 1 => k false
theorem yeu {x y : Option R} {r : R} (h : yaq x y = some r) : x = some r /\ y = some r := by
 unfold yaq at h;split at h
 ·rename_i e; exact ⟨h, e ▸ h⟩
 ·cases h
theorem yt8 {k : Bool -> Option R} {r : R} (h : yj4 n k = some r) : k false = some r /\ (n = 0 -> k true = some r) := by
 unfold yj4 at h;split at h
 ·exact ⟨(yeu h).2, fun _ => (yeu h).1⟩
 ·exact ⟨h, fun h => by cases h⟩
def TV.slen : TV -> Option Nat
 | .v (.sl _) l => some (kE l)
 | .fsl _ l => some (kE l)
 | .osf _ _ _ n => some n
 | .os _ _ _ _ _ n => some n
 | .nil => some 0
 | _ => none
def ybq : Operand -> Bool
 | .const (.slice none 0 0) => true
 | _ => false
def yj3 (P : Program) (o : Oper) (σ : TS) : Option (Nat × Bool) :=
 match o.op with
 | .binOp op t x y _ => bif ybq y then (match P.underlying t, op with
  | some (.slice _), .eql => (σ.eval x).slen.map fun n => (n, false)
  | some (.slice _), .neq => (σ.eval x).slen.map fun n => (n, true)
  | _, _ => none) else none
 | _ => none
theorem yqe {y : Operand} (h : ybq y = true) : y = .const (.slice none 0 0) := by
 unfold ybq at h;split at h
 ·rfl
 ·cases h
theorem ywd (h : t.slen = some n) : (∃ cs k, t.pv = .tr n cs k) \/ ∃ b off sz, t.pv = .sl b off n sz := by
 cases t <;> (try simp only [TV.slen] at h) <;> first | (cases h; done) | skip
 ·rename_i u x;cases u <;> (try simp only [TV.slen] at h) <;> first | (cases h; done) | skip
  cases h;exact .inl ⟨_, _, rfl⟩
 ·cases h; exact .inl ⟨_, _, rfl⟩
 ·cases h; exact .inl ⟨_, _, rfl⟩
 ·cases h; exact .inl ⟨_, _, rfl⟩
 ·cases h; exact .inr ⟨_, _, _, rfl⟩
theorem ykx {ng : Bool} (h : yj3 P o σ = some (n, ng)) {N : TS -> Prop} (hw : σ.wf) (hN : ∀ b : Bool, (n ≠ 0 -> b = false) -> N (σ.put o.dst (.v .bool (bif ng then !b else b)))) : ze4 P o σ N := by
 unfold yj3 at h;split at h
 ·rename_i op t x y yt ho;cases hy : ybq y with
  | false => rw [hy] at h; cases h
  | true =>
   rw [hy] at h;have := yqe hy;subst this;simp only [cond_true] at h;have key : ∀ (e : TypeId), P.underlying t = some (.slice e) -> (op = .eql /\ ng = false) \/ (op = .neq /\ ng = true) -> (σ.eval x).slen = some n -> ze4 P o σ N := by
    intro e hu hop hl;intro c a w K Q hr hK;refine yoy (σ := σ.flat) ho hop hu (zm (t := σ.eval x) rfl (fun hd => by rw [hd] at hl; cases hl)) (ywd hl) hr.2 fun b hb => ?_
    refine hK c _ w _ (hN b hb) (jP hw _ (by simp only [TV.wf, wfU])) (zem _ hr ?_) (ExtP.refl _ _ _) (Act.put_defers' _ _ _)
    simp only [TV.pv, pvU];exact xR rfl
   split at h
   ·rename_i e hu;cases hl : (σ.eval x).slen with
    | none => rw [hl] at h; cases h
    | some m => rw [hl] at h; cases h; exact key e hu (.inl ⟨rfl, rfl⟩) hl
   ·rename_i e hu;cases hl : (σ.eval x).slen with
    | none => rw [hl] at h; cases h
    | some m => rw [hl] at h; cases h; exact key e hu (.inr ⟨rfl, rfl⟩) hl
   ·cases h
 ·cases h
def zm2 (g : Nat -> Fate) (l : List (Nat × TV)) : List (Nat × TV) := l.map fun x => (x.1, x.2.mv g)
theorem y4x (g : Nat -> Fate) : ∀ {l : List (Nat × TV)} {t : Nat}, xh (zm2 g l) t = (xh l t).map (TV.mv g)
 | [], t => rfl
 | (s, v) :: l, t => by
  simp only [zm2, kI, xh];cases kC s t with
  | true => rfl
  | false => exact y4x g
theorem yk2 {g : Nat -> Fate} {w w' : World} {c c' : Cx} (hw : σ.wf) (M : MvH g w c w' c') (hs : SlotsR w c σ.flat a.tmps) (H : List TOb) (p : Nat) : SlotsR w' c' (TS.flat ⟨σ.n, zm2 g σ.slots, H, p⟩) a.tmps := by
 refine ⟨hs.1, fun t q hlk hlt => ?_⟩
 simp only [TS.flat] at hlk hlt;rw [z84, y4x] at hlk;cases hl : xh σ.slots t with
 | none => rw [hl] at hlk; cases hlk
 | some v =>
  rw [hl] at hlk;simp only [kS, Option.some.injEq] at hlk;subst hlk;obtain ⟨z, hz1, hz2⟩ := zic hl;have hwv : v.wf := by rw [<- hz2]; exact hw.slots z hz1
  obtain ⟨u, h1, h2⟩ := hs.2 t v.pv (by simp only [TS.flat, z84, hl, kS]) hlt
  exact ⟨u, h1, (z4f M v hwv).pv u h2⟩
theorem ybo {g : Nat -> Fate} (hg : ∀ b o, g b = .fz o -> o.wf) {l : List (Nat × TV)} (h : ∀ x, x ∈ l -> x.2.wf) : ∀ x, x ∈ zm2 g l -> x.2.wf := fun x hx => by
 simp only [zm2, kJ] at hx;obtain ⟨y, hy, rfl⟩ := hx;exact (zjl hg _ (h y hy)).1
def yow (σ : TS) (g : Nat -> Fate) (hs : List HPat) (ρ : List (Option Nat)) : TS := ⟨σ.n, zm2 g σ.slots, z0x g σ.H hs ρ, σ.p⟩
theorem y9q {g : Nat -> Fate} (hg : ∀ b o, g b = .fz o -> o.wf) {H : List TOb} (hH : ∀ o, o ∈ H -> o.wf) {hs : List HPat} {ρ : List (Option Nat)} : ∀ o, o ∈ z0x g H hs ρ -> o.wf := fun o ho => by
 obtain ⟨j, hj⟩ := List.mem_iff_getElem?.1 ho;rcases zhc hj with ⟨_, rfl | ⟨e, u, rfl⟩⟩ | ⟨b, _, ⟨e, t, h1, rfl⟩ | ⟨e, u, l, h1, rfl⟩ | ⟨_, rfl⟩⟩
 ·trivial
 ·exact fun x hx => by cases hx
 ·have := hH _ (kH h1);have m := zjl hg t this.1;exact ⟨m.1, m.2 this.2⟩
 ·exact hH _ (kH h1)
 ·trivial
theorem y44 {p : Nat} {H : List TOb} (hH : ∀ o, o ∈ H -> o.wf) {ρ : List (Option Nat)} {fz : List Nat} : ∀ b o, z23 p H ρ fz b = .fz o -> o.wf := fun b o h => by
 obtain ⟨_, _, _, e, he⟩ := y6f h;exact hH _ (kH he)
theorem y6w (hw : σ.wf) {ρ : List (Option Nat)} {fz : List Nat} {hs : List HPat} : (yow σ (z23 σ.p σ.H ρ fz) hs ρ).wf :=
 ⟨ybo (y44 hw.H) hw.slots, y9q (y44 hw.H) hw.H⟩
theorem yjq (hr : RelT w c σ a) (hw : σ.wf) {ρ : List (Option Nat)} (hn : z4g σ.p ρ = true) (fz : List Nat) {hs : List HPat} (hl : hs.length = ρ.length) :
  RelT w (z57 c ρ) (yow σ (z23 σ.p σ.H ρ fz) hs ρ) a /\ ExtP σ.p w c w (z57 c ρ) := by
 obtain ⟨h1, h2⟩ := yr9 hr hw hn fz hl [];exact ⟨⟨h1.1, h1.2.1, yk2 hw (ybn hr.good hw.H hr.1 fz) hr.2.2 _ _⟩, h2 w c (ExtP.refl _ _ _)⟩
def yt3 : List (Option Nat) -> Nat -> Bool
 | [], _ => false
 | some b' :: r, b => kC b' b || yt3 r b
 | none :: r, b => yt3 r b
def zj9 (n p : Nat) (fz : List Nat) (ρ : List (Option Nat)) : List (Option Nat) := (List.range n).map fun b => bif zdq fz b && kR p b && !yt3 ρ b then none else some b
def yxo (own : List Nat) (i : Nat) (o : Oper) (σ : TS) : List Nat :=
 (bif zdq own i then (match o.op with
  | .store _ _ y => ybr (σ.eval y)
  | _ => []) else []) ++ (bif zdq own (i + 2000000) then (match o.op with
  | .buildSlice _ _ xs => xs.toList.flatMap fun x => ybr (σ.eval x.2)
  | _ => []) else [])
def yov (σ : TS) (fz : List Nat) : TS := yow σ (z23 σ.p σ.H (zj9 (kE σ.H) σ.p fz []) fz) (kA (kE σ.H) .gone) (zj9 (kE σ.H) σ.p fz [])
def yo4 : TV -> TV
 | .v (.st us) x => .agg (z3t us x)
 | t => t
theorem yql (h : t.wf) : (yo4 t).wf /\ (yo4 t).pv = t.pv := by
 unfold yo4;split
 ·rename_i us x;simp only [TV.wf, wfU] at h;obtain ⟨h1, h2, h3, h4⟩ := y0p us x h;exact ⟨by simp only [TV.wf]; exact ⟨h3, h1, by rw [h2]; exact zdm us x h⟩, by simp only [TV.pv, pvU, zr, h2]⟩
 ·exact ⟨h, rfl⟩
def yjc (t : Nat) : List (Nat × TV) -> List (Nat × TV)
 | [] => []
 | (s, p) :: r => bif kC s t then (s, yo4 p) :: r else (s, p) :: yjc t r
theorem yfc (t : Nat) : ∀ {l : List (Nat × TV)}, (∀ x, x ∈ l -> x.2.wf) -> ((yjc t l).map (fun x => (x.1, x.2.pv)) = l.map fun x => (x.1, x.2.pv)) /\ ∀ x, x ∈ yjc t l -> x.2.wf
 | [], _ => ⟨rfl, fun x h => by cases h⟩
 | (s, p) :: r, h => by
  have hp := yql (h (s, p) (by simp))
  obtain ⟨h1, h2⟩ := yfc t (l := r) fun x hx => h x (by simp [hx])
  simp only [yjc];cases hb : kC s t with
  | true =>
   refine ⟨by simp only [cond_true, kI, hp.2], fun x hx => ?_⟩
   rcases kZ.1 hx with rfl | hx
   ·exact hp.1
   ·exact h x (by simp [hx])
  | false =>
   refine ⟨by simp only [cond_false, kI, h1], fun x hx => ?_⟩
   rcases kZ.1 hx with rfl | hx
   ·exact h _ (by simp)
   ·exact h2 x hx
def y0o (own : List Nat) (i : Nat) (o : Oper) (σ : TS) : TS :=
 match o.op with
 | .store _ _ (.tmp t) => bif zdq own (i + 1000000) then { σ with slots := yjc t σ.slots } else σ
 | _ => σ
variable {i : Nat}
theorem ybv {own : List Nat} (hw : σ.wf) : (y0o own i o σ).wf /\ (y0o own i o σ).flat = σ.flat /\ (y0o own i o σ).p = σ.p /\ (y0o own i o σ).n = σ.n := by
 unfold y0o;split
 ·rename_i t _;cases zdq own (i + 1000000) with
  | false => exact ⟨hw, rfl, rfl, rfl⟩
  | true =>
   obtain ⟨h1, h2⟩ := yfc t hw.slots;exact ⟨⟨h2, hw.H⟩, by simp only [cond_true, TS.flat, h1], rfl, rfl⟩
 ·exact ⟨hw, rfl, rfl, rfl⟩
theorem ytc {own : List Nat} {N : TS -> Prop} (hw : σ.wf) (h : ze4 P o (y0o own i o σ) N) : ze4 P o σ N := by
 obtain ⟨_, h2, h3, _⟩ := ybv (own := own) (i := i) (o := o) hw;intro c a w K Q hr hK;refine h c a w K Q ?_ fun c' a' w' σ' hN hw' hr' hx hd => hK c' a' w' σ' hN hw' hr' (by rw [<- h3]; exact hx) hd
 refine ⟨by rw [h3]; exact hr.1, by rw [h2]; exact hr.2⟩
noncomputable def yne (P : Program) (V : Env) (own : List Nat) (i : Nat) (o : Oper) (σ : TS) (k : TS -> Option R) : Option R :=
 match yxo own i o σ with
  | [] => yh8 P V own i o σ k
  | b :: bs => bif z4g σ.p (zj9 (kE σ.H) σ.p (b :: bs) []) then yh8 P V own i o (yov σ (b :: bs)) k else none
noncomputable def yia (P : Program) (V : Env) (own : List Nat) (i : Nat) (o : Oper) (σ : TS) (k : TS -> Option R) : Option R :=
 match yj3 P o σ with
 | some (n, ng) => yj4 n fun b => k (σ.put o.dst (.v .bool (bif ng then !b else b)))
 | none => yne P V own i o (y0o own i o σ) k
theorem ybc {own : List Nat} (h : zrl P own i o σ = true) : y6h P o = true := by
 unfold zrl at h;unfold y6h;cases ho : o.op <;> rw [ho] at h <;> first | rfl | exact h
variable {V : Env}
theorem zvk (hV : EnvsOK P V) {k : TS -> Option R} {r : R} (hw : σ.wf) (h : (zge P V.E o σ fun q => k (σ.put o.dst q)) = some r) :
  ze4 P o σ (fun σ' => k σ' = some r /\ σ'.n = σ.n) /\ ∃ σ', σ'.wf /\ k σ' = some r := by
 obtain ⟨q, h1, h2⟩ := ybz hV.E hw h;exact ⟨yoi hw h2 ⟨h1, (z56 _ _ _).2.1⟩, _, jP hw _ h2.1, h1⟩
theorem yf2 (hV : EnvsOK P V) {own : List Nat} {k : TS -> Option R} {r : R} (hw : σ.wf) (h : yh8 P V own i o σ k = some r) :
  ze4 P o σ (fun σ' => k σ' = some r /\ σ'.n = σ.n) /\ ∃ σ', σ'.wf /\ k σ' = some r := by
 unfold yh8 at h;cases hk : zrl P own i o σ with
 | true =>
  rw [hk] at h;simp only [cond_true] at h;obtain ⟨pf, e, ob, h1, h2⟩ := yj2 hw (ybc hk) h;refine ⟨yt7 hw h2 ⟨h1, (z56 _ _ _).2.1⟩, _, ⟨fun x hx => ?_, fun q hq => ?_⟩, h1⟩
  ·exact (jP hw o.dst (h2.pwf σ.H.length)).slots x hx
  ·rcases kG.1 hq with hq | hq
   ·exact hw.H q hq
   ·simp only [kK] at hq; subst hq; exact h2.wf
 | false =>
  rw [hk] at h;simp only [cond_false] at h;split at h
  ·rename_i t x y ho;split at h
   ·rename_i hd;obtain ⟨b, e, ob', h1, h2⟩ := ycu ho hw h;have hw' : TS.wf { σ with H := σ.H.set b (.ob e ob') } := yco hw b h2.wf;refine ⟨fun c a w K Q hr hK => ?_, _, hw', h1⟩
    refine h2.step σ.flat.H rfl c a w K Q hr.2 fun w' hg hx => ?_
    refine hK c _ w' _ ⟨h1, rfl⟩ hw' ⟨hr.1, ?_, ?_⟩ (zv3 hr.noT hx) (Act.put_defers' _ _ _)
    ·rw [y1g]; exact hg
    ·rw [hd]; exact hr.2.2.ext hx
   ·cases h
  ·rename_i xs ts ho;cases hos : yqm (xs.toList.map σ.eval) with
   | false => rw [hos] at h; exact zvk hV hw h
   | true =>
    rw [hos] at h;simp only [cond_true] at h;obtain ⟨b, e, u, l, h1, h2⟩ := ys7 ho hw h;refine ⟨h2.step _ ⟨h1, rfl⟩, _, ⟨fun z hz => ?_, fun q hq => ?_⟩, h1⟩
    ·rcases kG.1 hz with hz | hz
     ·cases hd : o.dst with
      | none => rw [hd] at hz; cases hz
      | some d => rw [hd] at hz; simp at hz; subst hz; simp only [TV.wf]
     ·simp only [zzq, kJ] at hz;obtain ⟨z', hz', rfl⟩ := hz;exact (zjl (fun b' o' h => absurd h (zxl b b' o')) _ (hw.slots _ hz')).1
    ·rcases kG.1 hq with hq | hq
     ·simp only [kJ] at hq;obtain ⟨q', hq', rfl⟩ := hq;refine (yo1 ?_).2;rcases kN hq' with hq' | hq'
      ·exact hw.H _ hq'
      ·rw [hq']; trivial
     ·simp only [kK] at hq; subst hq; exact h2.wf
  ·rename_i xs ts ho;obtain ⟨b, e, ob', h1, h2⟩ := yps ho hw h;have hw' : TS.wf { σ with H := σ.H.set b (.ob e ob') } := yco hw b h2.wf;have hw2 : (TS.put { σ with H := σ.H.set b (.ob e ob') } o.dst .dead).wf := jP hw' _ zml;refine ⟨fun c a w K Q hr hK => ?_, _, hw2, h1⟩
   have hstep := h2.step (fun τ => τ = ({ σ.flat with H := σ.flat.H.set b (.row ob'.cells e) } : AS).put o.dst .dead) rfl
   refine hstep c a w K Q hr.2 fun c' a' w' τ hτ hr' hx hd => ?_
   subst hτ;refine hK c' a' w' _ ⟨h1, (z56 _ _ _).2.1⟩ hw2 ⟨?_, ?_⟩ (zv3 hr.noT hx) hd
   ·rw [(z56 _ _ _).2.2, hx.pn, hr.1]
   ·rw [zco, y1g];simp only [TV.pv];exact hr'
  ·rename_i xs ts ho;obtain ⟨b, e, ob', h1, h2⟩ := yn8 ho hw h;have hw' : TS.wf { σ with H := σ.H.set b (.ob e ob') } := yco hw b h2.wf;have hw2 : (TS.put { σ with H := σ.H.set b (.ob e ob') } o.dst .dead).wf := jP hw' _ zml;refine ⟨fun c a w K Q hr hK => ?_, _, hw2, h1⟩
   have hstep := h2.step (fun τ => τ = ({ σ.flat with H := σ.flat.H.set b (.row ob'.cells e) } : AS).put o.dst .dead) rfl
   refine hstep c a w K Q hr.2 fun c' a' w' τ hτ hr' hx hd => ?_
   subst hτ;refine hK c' a' w' _ ⟨h1, (z56 _ _ _).2.1⟩ hw2 ⟨?_, ?_⟩ (zv3 hr.noT hx) hd
   ·rw [(z56 _ _ _).2.2, hx.pn, hr.1]
   ·rw [zco, y1g];simp only [TV.pv];exact hr'
  ·rename_i fo xs ats ho;split at h
   ·rename_i f caps hfo;cases ha : yal V.E f σ.H (xs.toList.map σ.eval ++ caps) with
    | true => rw [ha] at h; exact zvk hV hw h
    | false =>
     rw [ha] at h;simp only [cond_false] at h;have hwf := zS hw fo;rw [hfo] at hwf;simp only [TV.wf] at hwf;have hd := y7v hV.F hw (fun a ha => by
      rcases kG.1 ha with ha | ha
      ·simp only [kJ] at ha;obtain ⟨x, _, rfl⟩ := ha;exact zS hw x
      ·exact xI.1 hwf a ha) h
     refine ⟨fun c a w K Q hr hK => ?_, ?_⟩
     ·have hrel : RelC w c { σ.flat with H := σ.flat.H ++ [] } a := by rw [List.append_nil]; exact hr.2
      obtain ⟨cv, e1, e2, e3⟩ := zuw (xs := xs) hrel hfo;unfold Oper.wp;rw [y1b ho hd.can e1];show Calls P f (xs.map a.eval ++ cv) w _;refine (hd.calls c w a _ hr e2 e3).mono ?_;rintro ed w' ⟨v, σ', t, c', rfl, hk', hw', ht, hn, hr', hv, hx⟩;exact hK c' _ w' _ ⟨hk', by rw [(z56 _ _ _).2.1]; exact hn⟩ (jP hw' _ ht) (zem _ hr' hv) hx (Act.put_defers' _ _ _)
     ·obtain ⟨σ', t, hk', hw', ht⟩ := hd.wf;exact ⟨_, jP hw' _ ht, hk'⟩
   ·cases h
  ·rename_i s t x ho;cases hs : yoo P s t σ.H (σ.eval x) with
   | false => rw [hs] at h; exact zvk hV hw h
   | true =>
    rw [hs] at h;simp only [cond_true] at h;unfold yoo at hs;split at hs
    ·rename_i b r p u lo n hx;simp only [kD] at hs;obtain ⟨⟨⟨h1, h2⟩, h3⟩, h4⟩ := hs;have := kB h1;subst this;split at h4
     ·rename_i e ob hob;rw [hx] at h;exact ⟨yrm ho hw h2 hx h3 hob ⟨h, (z56 _ _ _).2.1⟩, _, jP hw _ (by have := zS hw x; rwa [hx] at this), h⟩
     ·cases h4
    ·cases hs
  ·exact zvk hV hw h
theorem ypv (hV : EnvsOK P V) {own : List Nat} {k : TS -> Option R} {r : R} (hw : σ.wf) (h : yne P V own i o σ k = some r) :
  ze4 P o σ (fun σ' => k σ' = some r /\ σ'.n = σ.n) /\ ∃ σ', σ'.wf /\ k σ' = some r := by
 unfold yne at h;split at h
 ·exact yf2 hV hw h
 ·rename_i b bs _;cases hc : z4g σ.p (zj9 (kE σ.H) σ.p (b :: bs) []) with
  | false => rw [hc] at h; cases h
  | true =>
   rw [hc] at h;obtain ⟨h1, h2⟩ := yf2 hV (σ := yov σ (b :: bs)) (y6w hw) h;refine ⟨fun c a w K Q hr hK => ?_, h2⟩
   obtain ⟨q1, q2⟩ := yjq hr hw hc (b :: bs) (hs := kA (kE σ.H) .gone) (by simp [zj9])
   refine h1 _ a w K Q q1 fun c' a' w' σ' hN hw' hr' hx hd => hK c' a' w' σ' hN hw' hr' (ExtP.trans q2 hx) hd
theorem zsd (hV : EnvsOK P V) {own : List Nat} {k : TS -> Option R} {r : R} (hw : σ.wf) (h : yia P V own i o σ k = some r) :
  ze4 P o σ (fun σ' => k σ' = some r /\ σ'.n = σ.n) /\ ∃ σ', σ'.wf /\ k σ' = some r := by
 unfold yia at h;split at h
 ·rename_i n ng hc;obtain ⟨h1, h2⟩ := yt8 h;refine ⟨ykx hc hw fun b hb => ⟨?_, (z56 _ _ _).2.1⟩, _, jP hw _ (by simp only [TV.wf, wfU]), h1⟩
  cases b with
  | false => exact h1
  | true =>
   by_cases h0 : n = 0
   ·exact h2 h0
   ·cases hb h0
 ·obtain ⟨o1, _, _, o4⟩ := ybv (own := own) (i := i) (o := o) hw;obtain ⟨h1, h2⟩ := ypv hV o1 h;rw [o4] at h1;exact ⟨ytc hw h1, h2⟩
def zro (d : Nat) (b : Bool) : List (Nat × TV) -> List (Nat × TV)
 | [] => []
 | (t, p) :: r => bif kC t d then (t, .v .bool b) :: r else (t, p) :: zro d b r
def TS.refine (σ : TS) (d : Nat) (b : Bool) : TS := { σ with slots := zro d b σ.slots }
theorem y5n {d : Nat} {b : Bool} : ∀ {l : List (Nat × TV)}, xh l d = some (.v .bool b) -> (zro d b l).map (fun x => (x.1, x.2.pv)) = l.map fun x => (x.1, x.2.pv)
 | [], h => by simp [xh] at h
 | (t, p) :: r, h => by
  simp only [xh] at h;simp only [zro];cases hb : kC t d with
  | true => rw [hb] at h; simp only [cond_true, Option.some.injEq] at h ⊢; rw [h]
  | false => rw [hb] at h; simp only [cond_false] at h ⊢; simp only [kI, y5n h]
theorem y8h {d : Nat} {b : Bool} : ∀ {l : List (Nat × TV)} {x : Nat × TV}, x ∈ zro d b l -> x ∈ l \/ x.2 = .v .bool b
 | [], x, h => by cases h
 | (t, p) :: r, x, h => by
  simp only [zro] at h;cases hb : kC t d with
  | true =>
   rw [hb] at h;rcases kZ.1 h with rfl | h
   ·exact .inr rfl
   ·exact .inl (by simp [h])
  | false =>
   rw [hb] at h;rcases kZ.1 h with rfl | h
   ·exact .inl (by simp)
   ·rcases y8h h with h | h
    ·exact .inl (by simp [h])
    ·exact .inr h
theorem ylb {d : Nat} {b : Bool} (h : σ.get d = .v .bool b) : (σ.refine d b).flat = σ.flat := by
 unfold TS.get at h;cases hn : lB d σ.n with
 | false => rw [hn] at h; cases h
 | true =>
  rw [hn] at h;simp only [cond_true] at h;cases hl : xh σ.slots d with
  | none => rw [hl] at h; cases h
  | some p => rw [hl] at h; simp only [ky] at h; subst h; simp only [TS.flat, TS.refine, y5n hl]
theorem yr8 (hw : σ.wf) (d : Nat) (b : Bool) : (σ.refine d b).wf :=
 ⟨fun x hx => by
  rcases y8h hx with hx | hx
  ·exact hw.slots x hx
  ·rw [hx]; simp only [TV.wf, wfU], hw.H⟩
def zxz (ops : Array Oper) (o : Oper) (view σ : TS) (yes no : TS -> Option R) : Option R :=
 match o.guard with
 | none => yes σ
 | some (j, want) =>
  match (ops[j]?).bind (·.dst) with
  | none => no σ
  | some d =>
   match view.get d with
   | .v .bool β => cond β (cond want (yes (σ.refine d true)) (no (σ.refine d true))) (cond want (no (σ.refine d false)) (yes (σ.refine d false)))
   | .tup _ => no σ
   | _ => none
structure Same (σ σ' : TS) : Prop where
 flat : σ'.flat = σ.flat
 H : σ'.H = σ.H
 p : σ'.p = σ.p
 wf : σ'.wf
theorem zea {ops : Array Oper} {view σ : TS} {yes no : TS -> Option R} {r : R} (hw : σ.wf) (hv : ∀ d b, view.get d = .v .bool b -> σ.get d = .v .bool b) (h : zxz ops o view σ yes no = some r) :
  ∃ g σ', z2g ops view.flat o = some g /\ Same σ σ' /\ (if g = true then yes σ' else no σ') = some r := by
 unfold zxz at h;unfold z2g;split at h
 ·rename_i hg; rw [hg]; exact ⟨true, σ, rfl, ⟨rfl, rfl, rfl, hw⟩, h⟩
 ·rename_i j want hg;rw [hg];split at h
  ·rename_i hd; simp only [hd]; exact ⟨false, σ, rfl, ⟨rfl, rfl, rfl, hw⟩, h⟩
  ·rename_i d hd;simp only [hd];rw [zcn];split at h
   ·rename_i β hβ;rw [hβ];have hσ := hv d β hβ;refine ⟨β == want, σ.refine d β, rfl, ⟨ylb hσ, rfl, rfl, yr8 hw d β⟩, ?_⟩;cases β <;> cases want <;> exact h
   ·rename_i hβ; rw [hβ]; exact ⟨false, σ, by simp only [TV.pv], ⟨rfl, rfl, rfl, hw⟩, h⟩
   ·cases h
theorem RelT.same {σ σ' : TS} (h : RelT w c σ a) (hs : Same σ σ') : RelT w c σ' a := ⟨by rw [hs.p]; exact h.1, by rw [hs.flat]; exact h.2⟩
theorem zzh : (TV.tup []).wf := by simp only [TV.wf, TV.wfs]
noncomputable def y9t {R : Type} (P : Program) (V : Env) (own : List Nat) (ops : Array Oper) : List Oper -> Nat -> TS -> (TS -> Option R) -> Option R
 | [], _, σ, k => k σ
 | o :: r, i, σ, k => zxz ops o σ σ (fun σ => yia P V own i o σ fun σ' => y9t P V own ops r (i + 1) σ' k) (fun σ => y9t P V own ops r (i + 1) (σ.put o.dst (.tup [])) k)
theorem zm6 {R : Type} {P : Program} {V : Env} (hV : EnvsOK P V) {own : List Nat} {ops : Array Oper} {k : TS -> Option R} {r : R} : ∀ (l : List Oper) (i : Nat) {σ : TS}, ops.toList.drop i = l -> σ.wf -> y9t P V own ops l i σ k = some r ->
  (∃ σ', σ'.wf /\ k σ' = some r) /\ ∀ {c : Cx} {a : Act} {w : World} {Q' : Exit -> Act -> World -> Prop}, RelT w c σ a ->
  (∀ c' a' w' σ', k σ' = some r -> σ'.wf -> RelT w' c' σ' a' -> ExtP σ.p w c w' c' -> a'.defers = a.defers -> Q' .normal a' w') -> wpOps P ops Q' (List.range' i l.length) a w
 | [], i, σ, hd, hw, h => ⟨⟨σ, hw, h⟩, fun hr hK => hK _ _ _ σ (by simpa only [y9t] using h) hw hr (ExtP.refl _ _ _) rfl⟩
 | o :: l, i, σ, hd, hw, h => by
  have ho : ops[i]? = some o := by
   have : ops.toList[i]? = some o := by
    have h3 : (ops.toList.drop i)[0]? = some o := by rw [hd]; rfl
    rw [List.getElem?_drop] at h3; simpa using h3
   simpa using this
  have hd' : ops.toList.drop (i + 1) = l := by
   have : ops.toList.drop (i + 1) = (ops.toList.drop i).drop 1 := by rw [List.drop_drop]
   rw [this, hd]; rfl
  simp only [y9t] at h;obtain ⟨g, σ', hg, hs, h⟩ := zea hw (fun _ _ e => e) h
  cases g with
  | true =>
   simp only [if_true] at h;obtain ⟨hstep, σ2, hw2, h2⟩ := zsd hV hs.wf h;refine ⟨(zm6 hV l (i + 1) hd' hw2 h2).1, fun {c a w Q'} hr hK => ?_⟩
   simp only [kx, List.range'_succ, wpOps, ho];rw [qK hr.2.2 hg];simp only [if_true];refine .inl (hstep c a w _ Q' (hr.same hs) fun c' a' w' σ2 hk hw2 hr2 hx hdf => ?_)
   refine (zm6 hV l (i + 1) hd' hw2 hk.1).2 hr2 fun c3 a3 w3 σ3 hk3 hw3 hr3 hx3 hd3 => ?_
   have e2 : σ2.p = σ'.p := (hr.same hs).p hr2 hx;rw [e2] at hx3;have := ExtP.trans hx hx3;rw [hs.p] at this;exact hK c3 a3 w3 σ3 hk3 hw3 hr3 this (hd3.trans hdf)
  | false =>
   simp only [k0, if_false] at h;have hwp := jP hs.wf o.dst zzh;refine ⟨(zm6 hV l (i + 1) hd' hwp h).1, fun {c a w Q'} hr hK => ?_⟩
   simp only [kx, List.range'_succ, wpOps, ho];rw [qK hr.2.2 hg];simp only [k0, if_false];refine (zm6 hV l (i + 1) hd' hwp h).2 (zem o.dst (hr.same hs) (by simp only [TV.pv, TV.pvs]; exact zrw)) fun c3 a3 w3 σ3 hk3 hw3 hr3 hx3 hd3 => ?_
   rw [(z56 _ _ _).2.2, hs.p] at hx3;exact hK c3 a3 w3 σ3 hk3 hw3 hr3 hx3 (hd3.trans (Act.put_defers' _ _ _))
abbrev Fp := List Nat × List Nat
def ywv (a b : Fp) : Bool := D.meets a.1 b.2 || D.meets b.1 a.2
def zuz (ops : Array Oper) (it : Fp) (j : Nat) : List Fp -> Nat -> Bool
 | [], _ => true
 | jt :: r, k => (!(ywv it jt) || bef ops k j) && zuz ops it j r (k + 1)
def zri (ops : Array Oper) : List Fp -> Nat -> Bool
 | [], _ => true
 | it :: r, j => zuz ops it j r (j + 1) && zri ops r (j + 1)
def zzy (it : D.Item) : Fp := (it.wr, it.rd)
theorem y41 (ops : Array Oper) (it : D.Item) (j : Nat) : ∀ (l : List D.Item) (k : Nat), zuz ops (zzy it) j (l.map zzy) k = D.confWith ops it j l k
 | [], _ => rfl
 | jt :: r, k => by
  simp only [kI, zuz, D.confWith, y41 ops it j r];rfl
theorem yb0 (ops : Array Oper) : ∀ (l : List D.Item) (j : Nat), zri ops (l.map zzy) j = D.confOk ops l j
 | [], _ => rfl
 | it :: r, j => by simp only [kI, zri, D.confOk, y41, yb0 ops r]
def zxk (n : Nat) : List Nat -> Bool
 | [] => true
 | b :: L => lB b n && zxk n L
theorem zmo {n : Nat} : ∀ {L : List Nat}, zxk n L = true -> ∀ b, b ∈ L -> b < n
 | [], _, b, hb => by cases hb
 | a :: L, h, b, hb => by
  simp only [zxk, kD] at h;rcases kZ.1 hb with rfl | hb
  ·exact lE.mp h.1
  ·exact zmo h.2 b hb
def zj0 {R : Type} (P : Program) (V : Env) (own : List Nat) (ops : Array Oper) : List Oper -> Nat -> TS -> (List Fp -> TS -> Option R) -> Option R
 | [], _, σ, k => k [] σ
 | o :: r, i, σ, k => zxz ops o (σ.keep (o.looksAt ops)) σ
   (fun σ => bif zxk σ.H.length (qP o (σ.keep (o.looksAt ops))) then
     bif zrl P own i o (σ.keep (o.looksAt ops)) then yny P o (σ.keep (o.looksAt ops)) fun pf e ob =>
      zj0 P V own ops r (i + 1) { σ.put o.dst (pf σ.H.length) with H := σ.H ++ [.ob e ob] } fun fs => k (([σ.H.length], σ.H.length :: qP o (σ.keep (o.looksAt ops))) :: fs)
     else match o.op with
      | .store t x y => match o.dst with
       | none => yct P o (σ.keep (o.looksAt ops)) t x y fun b e ob' => zj0 P V own ops r (i + 1) { σ with H := σ.H.set b (.ob e ob') } fun fs => k (([b], [b]) :: fs)
       | some _ => none
      | .call { callee := .value fo, args := xs, argTypes := _ } => match (σ.keep (o.looksAt ops)).eval fo with
       | .fn f caps => bif yal V.E f σ.H (xs.toList.map (σ.keep (o.looksAt ops)).eval ++ caps) then zge P V.E o (σ.keep (o.looksAt ops)) fun q => zj0 P V own ops r (i + 1) (σ.put o.dst q) fun fs => k (([], qP o (σ.keep (o.looksAt ops))) :: fs)
        else y3u V.D f (σ.keep (o.looksAt ops)) (xs.toList.map (σ.keep (o.looksAt ops)).eval ++ caps) fun t us q L => zj0 P V own ops r (i + 1) { σ.put o.dst t with H := zod us (σ.H ++ kA q .gone) } fun fs => k ((us.map (·.1), us.map (·.1) ++ L) :: fs)
       | _ => none
      | _ => zge P V.E o (σ.keep (o.looksAt ops)) fun q => zj0 P V own ops r (i + 1) (σ.put o.dst q) fun fs => k (([], qP o (σ.keep (o.looksAt ops))) :: fs)
    else none)
   (fun σ => zj0 P V own ops r (i + 1) (σ.put o.dst (.tup [])) fun fs => k (([], []) :: fs))
theorem ysw {l : List Nat} {t : Nat} {p : TV} (h : (σ.keep l).get t = p) (hp : p ≠ .dead) : σ.get t = p := by
 unfold TS.get at h;cases hn : lB t (σ.keep l).n with
 | false => rw [hn] at h; exact absurd h.symm hp
 | true =>
  rw [hn] at h;simp only [cond_true] at h;have key : ∀ (l : List Nat) (q : TV), xh (l.map fun t => (t, σ.get t)) t = some q -> σ.get t = q := by
   intro l
   induction l with
   | nil => intro q h; simp [xh] at h
   | cons s l ih =>
    intro q h;simp only [kI, xh] at h;cases hb : kC s t with
    | true =>
     rw [hb] at h;have := kB hb;subst this;simpa using h
    | false => rw [hb] at h; exact ih q (by simpa using h)
  cases hl : xh (l.map fun t => (t, σ.get t)) t with
  | none => simp only [TS.keep, hl, Option.getD_none] at h; exact absurd h.symm hp
  | some q => simp only [TS.keep, hl, ky] at h; exact h ▸ key l q hl
theorem zle (σ : AS) (H : List AObj) (d : Option Nat) (p : PV) : AS.put { σ with H := H } d p = { σ.put d p with H := H } := by cases d <;> rfl
theorem y0q (l : List Oper) : ∀ (ps : List PV) (σ : AS) (H : List AObj), vM l ps { σ with H := H } = { vM l ps σ with H := H } := by
 induction l with
 | nil => intro ps σ H; cases ps <;> rfl
 | cons o l ih =>
  intro ps σ H;cases ps with
  | nil => rfl
  | cons p ps => simp only [vM, zle]; exact ih ps _ H
structure Drawn (P : Program) (ops : Array Oper) (l : List Oper) (its : List D.Item) (n : Nat) (σ σ' : TS) : Prop where
 does : ∀ m H0, D.Does P ops l its (σ.flat.H ++ kA (n + m) .gone) { σ.flat with H := H0 }
 slots : ∀ H0, { vM l (its.map D.Item.pv) σ.flat with H := H0 } = { σ'.flat with H := H0 }
 heap : ∀ m, D.heapTo its (σ.flat.H ++ kA (n + m) .gone) = σ'.flat.H ++ kA m .gone
 p : σ'.p = σ.p
theorem yik (σ : TS) (d : Option Nat) (q : TV) (e : TypeId) (ob : Ob) : TS.flat { σ.put d q with H := σ.H ++ [.ob e ob] } = { σ.flat.put d q.pv with H := σ.flat.H ++ [.row ob.cells e] } := by
 cases d <;> simp [TS.flat, TS.put, AS.put, TOb.flat]
theorem yo9 (hw : σ.wf) (d : Option Nat) {q : TV} (hq : q.wf) (e : TypeId) {ob : Ob} (ho : ob.wf) : TS.wf { σ.put d q with H := σ.H ++ [.ob e ob] } :=
  ⟨(jP hw d hq).slots, fun x hx => by
    rcases kG.1 hx with hx | hx
    · exact hw.H x hx
    · simp only [kK] at hx; subst hx; exact ho⟩
theorem zcm {R : Type} {P : Program} {V : Env} (hV : EnvsOK P V) {own : List Nat} {ops : Array Oper} : ∀ (l : List Oper) (i : Nat) {k : List Fp -> TS -> Option R} {r : R} {σ : TS}, σ.wf -> zj0 P V own ops l i σ k = some r ->
  ∃ its n σ', Drawn P ops l its n σ σ' /\ k (its.map zzy) σ' = some r /\ σ'.wf
 | [], i, k, r, σ, hw, h => ⟨[], 0, σ, ⟨fun _ _ => trivial, fun _ => rfl, fun m => by simp [D.heapTo], rfl⟩, by simpa only [zj0, List.map_nil] using h, hw⟩
 | o :: l, i, k, r, σ, hw, h => by
  simp only [zj0] at h;obtain ⟨g, σ1, hg, hs, h⟩ := zea hw (fun d b e => ysw e (by simp)) h
  rw [y4b] at hg;have hHlen : σ1.H.length = σ.H.length := by rw [hs.H]
  have hlenf : σ.flat.H.length = σ.H.length := by simp [TS.flat]
  have hkf : (σ1.keep (o.looksAt ops)).flat = σ.flat.keep (o.looksAt ops) := by rw [y4b, hs.flat]
  cases g with
  | false =>
   simp only [k0, if_false] at h;obtain ⟨its, nn, σ', ⟨d1, d2, d3, d4⟩, g2, g3⟩ := zcm hV l (i + 1) (jP hs.wf o.dst zzh) h;have eH : (σ1.put o.dst (.tup [])).flat.H = σ.flat.H := by rw [zco, hs.flat]; cases o.dst <;> rfl
   rw [eH] at d1 d3;rw [zco, hs.flat] at d1 d2;simp only [TV.pv, TV.pvs] at d1 d2;refine ⟨D.Item.q (.tup []) [] :: its, nn, σ', ⟨fun m H0 => ⟨⟨false, hg, by simp⟩, ?_⟩, fun H0 => ?_, fun m => d3 m, ?_⟩, g2, g3⟩
   ·rw [zle]; exact d1 m H0
   ·exact d2 H0
   ·rw [d4, (z56 _ _ _).2.2, hs.p]
  | true =>
   simp only [if_true] at h;cases hb : zxk σ1.H.length (qP o (σ1.keep (o.looksAt ops))) with
   | false => rw [hb] at h; cases h
   | true =>
    rw [hb] at h;simp only [cond_true] at h;have hb' := zmo hb;have qW : ∀ (m : Nat) (Y : List AObj), (∀ b, b ∈ qP o (σ1.keep (o.looksAt ops)) -> Y[b]? = (σ.flat.H ++ kA m AObj.gone)[b]?) -> ∀ b, b ∈ qP o (σ1.keep (o.looksAt ops)) -> Y[b]? = (σ1.keep (o.looksAt ops)).flat.H[b]? := fun m Y hY b hbm => by
     rw [hY b hbm, kh (by rw [hlenf, <- hHlen]; exact hb' b hbm)]
     rw [hkf]; rfl
    have hkw := ydm hs.wf (o.looksAt ops);have q0 : (zge P V.E o (σ1.keep (o.looksAt ops)) fun q => zj0 P V own ops l (i + 1) (σ1.put o.dst q) fun fs => k (([], qP o (σ1.keep (o.looksAt ops))) :: fs)) = some r -> ∃ its n σ', Drawn P ops (o :: l) its n σ σ' /\ k (its.map zzy) σ' = some r /\ σ'.wf := by
     intro h;obtain ⟨q, h1, h2, h3⟩ := ybz hV.E hkw h;obtain ⟨its, nn, σ', ⟨d1, d2, d3, d4⟩, g2, g3⟩ := zcm hV l (i + 1) (jP hs.wf o.dst h2) h1;have eH : (σ1.put o.dst q).flat.H = σ.flat.H := by rw [zco, hs.flat]; cases o.dst <;> rfl
     rw [eH] at d1 d3;rw [zco, hs.flat] at d1 d2;refine ⟨D.Item.q q.pv (qP o (σ1.keep (o.looksAt ops))) :: its, nn, σ', ⟨fun m H0 => ⟨⟨true, hg, ?_⟩, ?_⟩, fun H0 => d2 H0, fun m => d3 m, ?_⟩, g2, g3⟩
     ·rw [if_pos rfl];intro Y hY;have := h3 Y (qW _ Y hY);rw [hkf] at this;exact this
     ·rw [zle]; exact d1 m H0
     ·rw [d4, (z56 _ _ _).2.2, hs.p]
    cases hk : zrl P own i o (σ1.keep (o.looksAt ops)) with
    | true =>
     rw [hk] at h;simp only [cond_true] at h;obtain ⟨pf, e, ob, h1, h2⟩ := yj2 hkw (ybc hk) h;obtain ⟨its, nn, σ', ⟨d1, d2, d3, d4⟩, g2, g3⟩ := zcm hV l (i + 1) (yo9 hs.wf o.dst (h2.pwf σ1.H.length) e h2.wf) h1;rw [yik, hs.flat] at d1 d2 d3;have eset : ∀ m, (σ.flat.H ++ kA (m + 1) AObj.gone).set σ.H.length (.row ob.cells e) = σ.flat.H ++ [.row ob.cells e] ++ kA m .gone := fun m => by
      rw [List.set_append_right _ _ (by rw [hlenf]; exact kO _), hlenf, Nat.sub_self, kc]
      simp
     refine ⟨D.Item.al (fun b => (pf b).pv) σ.H.length ob.cells e (qP o (σ1.keep (o.looksAt ops))) :: its, nn + 1, σ', ⟨fun m H0 => ⟨⟨?_, hg, ?_⟩, ?_⟩, fun H0 => ?_, fun m => ?_, ?_⟩, ?_, g3⟩
     ·show (σ.flat.H ++ kA (nn + 1 + m) AObj.gone)[σ.H.length]? = some .gone;rw [List.getElem?_append_right (by rw [hlenf]; exact kO _), hlenf, Nat.sub_self, show nn + 1 + m = (nn + m) + 1 by omega, kc]
      rfl
     ·intro Y hY;have := h2.new Y (qW _ Y hY);rw [hkf] at this;exact this
     ·rw [zle];simp only [D.Item.upd, D.Item.pv];rw [show nn + 1 + m = (nn + m) + 1 by omega, eset, <- hHlen]
      exact d1 m H0
     ·simp only [kI, vM, D.Item.pv];have := d2 H0;rw [y0q] at this;rw [<- hHlen];exact this
     ·simp only [D.heapTo, D.Item.upd];rw [show nn + 1 + m = (nn + m) + 1 by omega, eset]
      exact d3 m
     ·rw [d4]; exact ((z56 _ _ _).2.2).trans hs.p
     ·rw [kI];simp only [zzy, D.Item.wr, D.Item.rd];rw [<- hHlen]; exact g2
    | false =>
     rw [hk] at h;simp only [cond_false] at h;split at h
     ·rename_i t x y ho;split at h
      ·rename_i hd;obtain ⟨b, e, ob', h1, h2⟩ := ycu ho hkw h;obtain ⟨ob, hob⟩ := h2.ob;have hlt : b < σ.H.length := by rw [<- hHlen]; exact h2.lt
       obtain ⟨its, nn, σ', ⟨d1, d2, d3, d4⟩, g2, g3⟩ := zcm hV l (i + 1) (yco hs.wf b (o := .ob e ob') h2.wf) h1;rw [y1g, hs.flat] at d1 d2 d3;have eset : ∀ m, (σ.flat.H ++ kA m AObj.gone).set b (.row ob'.cells e) = σ.flat.H.set b (.row ob'.cells e) ++ kA m .gone := fun m => by
        rw [List.set_append_left _ _ (by rw [hlenf]; exact hlt)]
       refine ⟨D.Item.ef (.tup []) [(b, ob'.cells, e)] [] :: its, nn, σ', ⟨fun m H0 => ⟨⟨hg, ?_⟩, ?_⟩, fun H0 => ?_, fun m => ?_, ?_⟩, g2, g3⟩
       ·intro Y hY;have hh : (σ1.keep (o.looksAt ops)).flat.H = σ.flat.H := by rw [hkf]; rfl
        have := h2.step Y (by rw [hY b (by simp), kh (by rw [hlenf]; exact hlt), hh])
        rw [hkf] at this;intro c a w K Q hr hK;exact this c a w K Q hr fun w' hg' hx => hK undef c w' (.inr hd) hg' hx
       ·rw [zle, hd];simp only [D.Item.upd, D.setAll, List.foldl_cons, List.foldl_nil, AS.put];rw [eset];exact d1 m H0
       ·simp only [kI, vM, hd, AS.put];have := d2 H0;rw [y0q] at this;exact this
       ·simp only [D.heapTo, D.Item.upd, D.setAll, List.foldl_cons, List.foldl_nil];rw [eset]; exact d3 m
       ·rw [d4]; exact hs.p
      ·cases h
     ·rename_i fo xs ats ho;split at h
      ·rename_i f caps hfo;cases ha : yal V.E f σ1.H (xs.toList.map (σ1.keep (o.looksAt ops)).eval ++ caps) with
       | true => rw [ha] at h; exact q0 h
       | false =>
        rw [ha] at h;simp only [cond_false] at h;have hwf := zS hkw fo;rw [hfo] at hwf;simp only [TV.wf] at hwf;obtain ⟨t, us, q, L, h1, h2⟩ := y7u hV.D hkw (fun a ha => by
         rcases kG.1 ha with ha | ha
         ·simp only [kJ] at ha;obtain ⟨x, _, rfl⟩ := ha;exact zS hkw x
         ·exact xI.1 hwf a ha) h
        have hkH : (σ1.keep (o.looksAt ops)).H.length = σ.H.length := hHlen;have hwn : TS.wf { σ1.put o.dst t with H := zod us (σ1.H ++ kA q .gone) } := ⟨(jP hs.wf o.dst h2.wf).slots, yfx us h2.uwf fun x hx => by
         rcases kG.1 hx with hx | hx
         ·exact hs.wf.H x hx
         ·rw [kW hx]; trivial⟩
        obtain ⟨its, nn, σ', ⟨d1, d2, d3, d4⟩, g2, g3⟩ := zcm hV l (i + 1) hwn h1;have ef : TS.flat { σ1.put o.dst t with H := zod us (σ1.H ++ kA q .gone) } = { σ.flat.put o.dst t.pv with H := D.setAll (z4r us) (σ.flat.H ++ kA q .gone) } := by
         have e1 : (zod us (σ1.H ++ kA q .gone)).map TOb.flat = D.setAll (z4r us) (σ.flat.H ++ kA q .gone) := by
          rw [y8m, hs.H, List.map_append, List.map_replicate]; rfl
         have e2 := hs.flat;have e3 := zco σ1 o.dst t;rw [e2] at e3;simp only [TS.flat] at e3 e1 ⊢;rw [e1];have := congrArg (fun τ : AS => ({ τ with H := D.setAll (z4r us) (σ.H.map TOb.flat ++ kA q .gone) } : AS)) e3
         simpa only using this
        rw [ef] at d1 d2 d3;have eset : ∀ m, D.setAll (z4r us) (σ.flat.H ++ kA (q + nn + m) AObj.gone) = D.setAll (z4r us) (σ.flat.H ++ kA q .gone) ++ kA (nn + m) .gone := fun m => by
         have key' : ∀ (m : Nat) (us : List (Nat × TypeId × Ob)) (H : List AObj), (∀ b, b ∈ us.map (·.1) -> b < H.length) -> D.setAll (z4r us) (H ++ kA m AObj.gone) = D.setAll (z4r us) H ++ kA m .gone := by
          intro m us
          induction us with
          | nil => intro H _; rfl
          | cons u us ih =>
           intro H hl;show D.setAll (z4r us) ((H ++ _).set u.1 _) = D.setAll (z4r us) (H.set u.1 _) ++ _;rw [List.set_append_left _ _ (hl u.1 (by simp))]
           exact ih _ fun b hb => by rw [List.length_set]; exact hl b (by simp [hb])
         rw [show q + nn + m = q + (nn + m) by omega, <- List.replicate_append_replicate, <- List.append_assoc]
         exact key' (nn + m) us _ fun b hb => by
          have := h2.lt b (kb _ hb);rw [ki, ka, hlenf, <- hkH]; exact this
        have hus : (z4r us).map (·.1) = us.map (·.1) := by simp [z4r]
        refine ⟨D.Item.ef t.pv (z4r us) L :: its, q + nn, σ', ⟨fun m H0 => ⟨⟨hg, ?_⟩, ?_⟩, fun H0 => ?_, fun m => ?_, ?_⟩, ?_, g3⟩
        ·intro Y hY c a w K Q hr hK;have hh : (σ1.keep (o.looksAt ops)).flat.H = σ.flat.H := by rw [hkf]; rfl
         have hrel : RelC w c { (σ1.keep (o.looksAt ops)).flat with H := Y } a := by rw [hkf]; exact hr
         obtain ⟨cv, e1, e2, e3⟩ := zuw (xs := xs) hrel hfo;unfold Oper.wp;rw [y1b ho h2.can e1];show Calls P f (xs.map a.eval ++ cv) w _;refine (h2.calls Y w c _ (fun b hb hlt => ?_) (fun j hj => ?_) hrel.1 e2 e3).mono ?_
         ·rw [hY b (by rw [hus]; exact hb), hh, kh (by rw [hlenf, <- hkH]; exact hlt)]
         ·rw [hY _ (by rw [hus]; exact h2.has j hj), hkH, List.getElem?_append_right (by rw [hlenf]; omega), hlenf, Nat.add_sub_cancel_left, List.getElem?_replicate, if_pos (by omega)]
         ·rintro ed w' ⟨v, c', rfl, hv, hg', hx⟩;exact hK v c' w' (.inl hv) hg' hx
        ·rw [zle];simp only [D.Item.upd, D.Item.pv];rw [eset];exact d1 m H0
        ·simp only [kI, vM, D.Item.pv];have := d2 H0;rw [y0q] at this;exact this
        ·simp only [D.heapTo, D.Item.upd];rw [eset]; exact d3 m
        ·rw [d4]; exact ((z56 _ _ _).2.2).trans hs.p
        ·rw [kI];simp only [zzy, D.Item.wr, D.Item.rd, hus];exact g2
      ·cases h
     ·exact q0 h
def zgd (ops : Array Oper) : List Nat -> Nat -> Bool
 | [], lo => kC lo ops.size
 | 0 :: ps, lo => lB lo ops.size && yn1 ops lo && zgd ops ps (lo + 1)
 | (m + 1) :: ps, lo => kR (lo + (m + 1)) ops.size && D.drawOkAt ops lo (lo + (m + 1)) && yop ops lo (lo + (m + 1)) && zgd ops ps (lo + (m + 1))
noncomputable def z8o {R : Type} (P : Program) (V : Env) (own : List Nat) (ops : Array Oper) (k : TS -> Option R) : List Nat -> Nat -> TS -> Option R
 | [], _, σ => k σ
 | 0 :: ps, lo, σ => match ops[lo]? with
  | some o => zxz ops o σ σ (fun σ => yia P V own lo o σ fun σ' => z8o P V own ops k ps (lo + 1) σ') (fun σ => z8o P V own ops k ps (lo + 1) (σ.put o.dst (.tup [])))
  | none => none
 | (m + 1) :: ps, lo, σ => zj0 P V own ops (seg ops lo (lo + (m + 1))) lo σ fun fs σ' => bif zri ops fs lo then z8o P V own ops k ps (lo + (m + 1)) σ' else none
theorem ysk (hV : EnvsOK P V) {own : List Nat} {ops : Array Oper} {k : TS -> Option R} {r : R} : ∀ (ps : List Nat) (lo : Nat) {σ : TS}, σ.wf -> z8o P V own ops k ps lo σ = some r -> ∃ σ', σ'.wf /\ k σ' = some r := by
 intro ps
 induction ps with
 | nil => intro lo σ hw h; exact ⟨σ, hw, by simpa only [z8o] using h⟩
 | cons m ps ih =>
  intro lo σ hw h;cases m with
  | zero =>
   simp only [z8o] at h;split at h
   ·obtain ⟨g, σ', hg, hs, h⟩ := zea hw (fun _ _ e => e) h
    cases g with
    | true =>
     simp only [if_true] at h;obtain ⟨_, σ2, h1, h2⟩ := zsd hV hs.wf h;exact ih _ h1 h2
    | false =>
     simp only [k0, if_false] at h;exact ih _ (jP hs.wf _ zzh) h
   ·cases h
  | succ m =>
   simp only [z8o] at h;obtain ⟨its, _, σ', _, g2, g3⟩ := zcm hV _ _ hw h;cases hc : zri ops (its.map zzy) lo with
   | false => rw [hc] at g2; cases g2
   | true => rw [hc] at g2; exact ih _ g3 g2
theorem yqx (l : List Oper) (ps : List PV) (σ : AS) : (vM l ps σ).n = σ.n := (zm7 l ps σ).1
theorem ynd (hV : EnvsOK P V) {own : List Nat} {ops : Array Oper} {k : TS -> Option R} {r : R} {Q' : Exit -> Act -> World -> Prop} (hdn : ∀ o, o ∈ ops.toList -> o.dst.all (fun d => decide (d < n)) = true) :
  ∀ (ps : List Nat) (lo : Nat) {σ : TS} {c : Cx} {a : Act} {w : World} (fuel : Nat) (listed : Array Bool), σ.n = n -> zgd ops ps lo = true -> z8o P V own ops k ps lo σ = some r -> σ.wf -> RelT w c σ a ->
  listed.size = ops.size -> (∀ j, j < ops.size -> (listed.getD j false = true ↔ j < lo)) -> zxj ops listed -> left ops listed <= fuel ->
  (∀ c' a' w' σ', k σ' = some r -> σ'.wf -> RelT w' c' σ' a' -> ExtP σ.p w c w' c' -> a'.defers = a.defers -> Q' .normal a' w') -> wpAny P .any ops Q' fuel listed a w := by
 intro ps
 induction ps with
 | nil =>
  intro lo σ c a w fuel listed _ hp h hw hr hs hl hc hf hK;simp only [zgd] at hp;simp only [z8o] at h;have e := kB hp;exact ys6 hs (fun j hj => (hl j hj).2 (by omega)) (hK c a w σ h hw hr (ExtP.refl _ _ _) rfl) fuel
 | cons m ps ih =>
  intro lo σ c a w fuel listed hn hp h hw hr hs hl hc hf hK;cases m with
  | zero =>
   simp only [zgd, kD] at hp;simp only [z8o] at h;have hlt : lo < ops.size := lE.mp hp.1.1;have ho : ops[lo]? = some ops[lo] := by simp [hlt]
   rw [ho] at h;simp only at h;obtain ⟨g, σ', hg, hsm, h⟩ := zea hw (fun _ _ e => e) h
   have hn' : σ'.n = n := by
    have e2 : σ'.n = σ.n := congrArg AS.n hsm.flat;exact e2.trans hn
   refine ysb hp.1.2 ho hs hl hc hf fun fuel' listed' s1 s2 s3 s4 => ?_
   unfold wpOp;rw [ho];simp only;rw [qK hr.2.2 hg];cases g with
   | true =>
    simp only [if_true] at h ⊢;refine .inl ((zsd hV hsm.wf h).1 c a w _ Q' (hr.same hsm) fun c' a' w' σ2 hk hw2 hr2 hx hdf => ?_)
    have e2 : σ2.p = σ.p := ((hr.same hsm).p hr2 hx).trans hsm.p;rw [hsm.p] at hx;exact ih (lo + 1) fuel' listed' (hk.2.trans hn') hp.2 hk.1 hw2 hr2 s1 s2 s3 s4 fun c3 a3 w3 σ3 hk3 hw3 hr3 hx3 hd3 => hK c3 a3 w3 σ3 hk3 hw3 hr3 (ExtP.trans hx (e2 ▸ hx3)) (hd3.trans hdf)
   | false =>
    simp only [k0, if_false] at h ⊢;refine ih (lo + 1) fuel' listed' ?_ hp.2 h (jP hsm.wf _ zzh) (zem _ (hr.same hsm) (by simp only [TV.pv, TV.pvs]; exact zrw)) s1 s2 s3 s4 fun c3 a3 w3 σ3 hk3 hw3 hr3 hx3 hd3 => hK c3 a3 w3 σ3 hk3 hw3 hr3 ?_ (hd3.trans (Act.put_defers' _ _ _))
    ·rw [(z56 _ _ _).2.1]; exact hn'
    ·rw [(z56 _ _ _).2.2, hsm.p] at hx3; exact hx3
  | succ m =>
   simp only [zgd, kD] at hp;simp only [z8o] at h;obtain ⟨⟨⟨hp1, hp2⟩, hp3⟩, hp4⟩ := hp;have hle' := kL hp1;obtain ⟨its, nn, σ', ⟨d1, d2, d3, d4⟩, g2, g3⟩ := zcm hV _ _ hw h;cases hcf : zri ops (its.map zzy) lo with
   | false => rw [hcf] at g2; cases g2
   | true =>
    rw [hcf] at g2;rw [yb0] at hcf;simp only [cond_true] at g2;have hseg : ∀ o, o ∈ seg ops lo (lo + (m + 1)) -> o ∈ ops.toList := fun o ho => ku (kU ho)
    have hheap := d3 0;simp only [Nat.add_zero, List.replicate_zero, List.append_nil] at hheap;have hdoes := d1 0 (σ.flat.H ++ kA nn .gone);rw [Nat.add_zero] at hdoes;obtain ⟨gd, xr⟩ := yf4 hr.2.1 nn;refine D.seg_draw (σ := { σ.flat with H := σ.flat.H ++ kA nn .gone }) its hp2 hp3 (by omega) hle' (fun o ho => by
      have := hdn o (hseg o ho);rw [<- hn] at this; exact this) hcf hdoes (left ops listed) fuel listed { c with m := c.m ++ kA nn none } a w rfl hf ?_ ?_
    ·refine ⟨?_, hr.2.2.1, hs, fun t ht _ => ?_, fun j o it t hjl hD ho => ?_, hc, fun j hjl hjs => (hl j hjs).2 hjl, fun j hD => ?_⟩
     ·have e0 : D.heapAt (fun j => listed.getD j false) its lo (σ.flat.H ++ kA nn .gone) = σ.flat.H ++ kA nn .gone := by
       have := D.heapTo_take its lo 0 (σ.flat.H ++ kA nn .gone);have none : ∀ (l : List D.Item) (j : Nat) (X : List AObj), (∀ k, j <= k -> listed.getD k false = false) -> D.heapAt (fun j => listed.getD j false) l j X = X := by
        intro l
        induction l with
        | nil => intro j X _; rfl
        | cons a l ih =>
         intro j X hX;simp only [D.heapAt, hX j (kO _), cond_false];exact ih _ _ fun k hk => hX k (by omega)
       refine none its lo _ fun k hk => ?_
       cases hD : listed.getD k false with
       | false => rfl
       | true =>
        have := (hl _ (zib hs hD)).1 hD; omega
      rw [e0]; exact gd
     ·have := hr.2.2.eval (.tmp t);have h2 : VR w c (σ.flat.get t) (a.tmps.getD t undef) := by simpa only [AS.eval, Act.eval] using this
      exact h2.ext xr
     ·have hjs := zib hs hD;have := (hl j hjs).1 hD; omega
     ·have hjs := zib hs hD;have := (hl j hjs).1 hD; omega
    ·intro fuel' listed' c' a' w' s1 s2 s3 s4 s5 s6 s7;have e4 : D.behind (seg ops lo (lo + (m + 1))) its { σ.flat with H := σ.flat.H ++ kA nn .gone } = σ'.flat := by
      simp only [D.behind];rw [hheap, y0q];exact d2 _
     rw [e4] at s5;have hx : ExtP σ.p w c w' c' := zv3 hr.noT (xr.trans s6);have hr' : RelT w' c' σ' a' := ⟨by rw [d4, <- hr.1]; exact hx.pn, s5⟩
     refine ih (lo + (m + 1)) fuel' listed' ?_ hp4 g2 g3 hr' s1 s2 s3 s4 fun c3 a3 w3 σ3 hk3 hw3 hr3 hx3 hd3 => hK c3 a3 w3 σ3 hk3 hw3 hr3 (ExtP.trans hx (d4 ▸ hx3)) (hd3.trans s7)
     have e5 := congrArg AS.n (d2 []);have e6 : σ'.n = σ.n := by
      have h1 : (vM (seg ops lo (lo + (m + 1))) (its.map D.Item.pv) σ.flat).n = σ.flat.n := yqx _ _ _;exact (show σ'.n = _ from e5.symm).trans h1
     exact e6.trans hn
theorem RelT.andX {w w' w2 : World} {c c' c2 : Cx} {σ σ' : TS} {a a' : Act} (hr : RelT w c σ a) (hr' : RelT w' c' σ' a') (hx : ExtP σ.p w c w' c') (h2 : ExtP σ'.p w' c' w2 c2) : ExtP σ.p w c w2 c2 := by
 rw [hr.p hr' hx] at h2;exact ExtP.trans hx h2
def zdo (D : Nat) : Deferred := { target := .collected D, args := #[] }
def Mk (w w' : World) (c' : Cx) (d d' : List Deferred) : Prop :=
 ∃ l : List Nat, d' = l.map zdo ++ d /\ l.Nodup /\ ∀ D, D ∈ l -> w.heap.size <= D /\ w'.heap[D]? = some (.deferred (some [])) /\ some D ∉ c'.m
theorem Mk.of_eq {w w' : World} {c' : Cx} {d d' : List Deferred} (h : d' = d) : Mk w w' c' d d' := ⟨[], by simp [h], List.nodup_nil, fun D h => by cases h⟩
theorem Mk.ext {p : Nat} {w w1 w2 : World} {c1 c2 : Cx} {d d' : List Deferred} (h : Mk w w1 c1 d d') (x : ExtP p w1 c1 w2 c2) : Mk w w2 c2 d d' := by
 obtain ⟨l, h1, h2, h3⟩ := h;refine ⟨l, h1, h2, fun D hD => ?_⟩
 obtain ⟨g1, g2, g3⟩ := h3 D hD;have hlt : D < w1.heap.size := (kT.1 g2).1;exact ⟨g1, (x.blocks D hlt g3).trans g2, fun h => (x.new D h).elim g3 fun h' => absurd hlt (lF.2 h')⟩
theorem Mk.trans {p : Nat} {w w1 w2 : World} {c1 c2 : Cx} {d d1 d2 : List Deferred} (hs : w.heap.size <= w1.heap.size) (h : Mk w w1 c1 d d1) (x : ExtP p w1 c1 w2 c2) (h2 : Mk w1 w2 c2 d1 d2) : Mk w w2 c2 d d2 := by
 obtain ⟨l, e1, n1, g1⟩ := h.ext x;obtain ⟨l', e2, n2, g2⟩ := h2;obtain ⟨l0, e0, _, g0⟩ := h;refine ⟨l' ++ l, by rw [e2, e1]; simp, List.nodup_append.2 ⟨n2, n1, fun a ha b hb e => ?_⟩, fun D hD => ?_⟩
 ·subst e;have := (g2 a ha).1;have h3 : l0 = l := by
   have h4 : l0.map zdo = l.map zdo := List.append_cancel_right (e0.symm.trans e1);exact List.map_inj_right (fun x y h => by simpa [zdo] using h) |>.1 h4
  subst h3;exact absurd (kT.1 (g0 a hb).2.1).1 (lF.2 this)
 ·rcases kG.1 hD with hD | hD
  ·exact ⟨lD hs (g2 D hD).1, (g2 D hD).2⟩
  ·exact g1 D hD
def RecOK (ro : Option Nat) (w : World) (c : Cx) : Prop :=
 match ro with
 | none => True
 | some l => some l ∉ c.m /\ ∃ r, w.heap[l]? = some (.loop r)
theorem RecOK.ext {p : Nat} {ro : Option Nat} {w w' : World} {c c' : Cx} (h : RecOK ro w c) (x : ExtP p w c w' c') : RecOK ro w' c' := by
 cases ro with
 | none => trivial
 | some l =>
  obtain ⟨h1, r, h2⟩ := h;have hlt : l < w.heap.size := (kT.1 h2).1;exact ⟨fun h => (x.new l h).elim h1 fun h' => absurd hlt (lF.2 h'), r, (x.blocks l hlt h1).trans h2⟩
def TAW (P : Program) (x : Code) (σ : TS) (Q : Exit -> TS -> Prop) : Prop :=
 ∀ c a w (Q' : Exit -> Act -> World -> Prop), RelT w c σ a -> σ.wf ->
  (∀ e c' a' w' σ', Q e σ' -> σ'.wf -> RelT w' c' σ' a' -> ExtP σ.p w c w' c' -> Mk w w' c' a.defers a'.defers -> Q' e a' w') -> ∀ ro, RecOK ro w c -> x.wpIn (Wd ro) 0 P Q' a w
variable {x : Code}
theorem TAW.mono {Q R : Exit -> TS -> Prop} (h : TAW P x σ Q) (hq : ∀ e σ, Q e σ -> R e σ) : TAW P x σ R :=
 fun c a w Q' hr hw hK => h c a w Q' hr hw fun e c' a' w' σ' hQ => hK e c' a' w' σ' (hq _ _ hQ)
theorem TAW.wk {σ σ2 : TS} {Q : Exit -> TS -> Prop} (hk : Wk σ σ2) (h : TAW P x σ2 Q) : TAW P x σ Q := by
 intro c a w Q' hr hw hK ro hro;obtain ⟨c2, hr2, hx⟩ := hk.2 w c a hr;have h0 := hx w c (ExtP.refl _ _ _);exact h c2 a w Q' hr2 hk.1 (fun e c' a' w' σ' hQ hw' hr' hx' hd => hK e c' a' w' σ' hQ hw' hr' (hr.andX hr2 h0 hx') hd) ro (hro.ext h0)
def yxi (N : TS -> Prop) (Q : Exit -> TS -> Prop) : Exit -> TS -> Prop
 | .normal, σ => N σ
 | e, σ => Q e σ
theorem TAW.seq {P : Program} {x y : Code} {σ : TS} {Q : Exit -> TS -> Prop} (h : TAW P x σ (yxi (fun σ' => TAW P y σ' Q) Q)) : TAW P (.seq x y) σ Q := by
 intro c a w Q' hr hw hK ro hro;refine wpIn_seq (h c a w _ hr hw (fun e c' a' w' σ' hQ hw' hr' hx hd => ?_) ro hro)
 cases e <;> first | exact hK _ c' a' w' σ' hQ hw' hr' hx hd | skip
 exact hQ c' a' w' _ hr' hw' (fun e2 c2 a2 w2 σ2 hQ2 hw2 hr2 hx2 hd2 => hK e2 c2 a2 w2 σ2 hQ2 hw2 hr2 (hr.andX hr' hx hx2) (hd.trans hx.size hx2 hd2)) ro (hro.ext hx)
def ykd (id : Nat) (Q : Exit -> TS -> Prop) : Exit -> TS -> Prop
 | .exit id', σ => bif kC id' id then Q .normal σ else Q (.exit id') σ
 | e, σ => Q e σ
theorem TAW.block {P : Program} {id : Nat} {x : Code} {σ : TS} {Q : Exit -> TS -> Prop} (h : TAW P x σ (ykd id Q)) : TAW P (.block id x) σ Q := by
 intro c a w Q' hr hw hK ro hro;refine wpIn_block (h c a w _ hr hw (fun e c' a' w' σ' hQ hw' hr' hx hd => ?_) ro hro)
 cases e with
 | exit id' =>
  simp only [ykd] at hQ;simp only [Exit.inBlock];split
  ·rename_i e;have : kC id' id = true := by rw [e]; exact Nat.beq_refl id
   rw [this] at hQ; exact hK _ c' a' w' σ' hQ hw' hr' hx hd
  ·rename_i e;have : kC id' id = false := by
    cases hb : kC id' id with
    | false => rfl
    | true => exact absurd (kB hb) e
   rw [this] at hQ; exact hK _ c' a' w' σ' hQ hw' hr' hx hd
 | _ => exact hK _ c' a' w' σ' hQ hw' hr' hx hd
def yy6 (Q : Exit -> TS -> Prop) : Exit -> TS -> Prop
 | .goto _, _ => False
 | e, σ => Q e σ
theorem TAW.scope {P : Program} {x : Code} {σ : TS} {Q : Exit -> TS -> Prop} (h : TAW P x σ (yy6 Q)) : TAW P (.scope x) σ Q := by
 intro c a w Q' hr hw hK ro hro;refine yd5 (h c a w _ hr hw (fun e c' a' w' σ' hQ hw' hr' hx hd => ?_) ro hro)
 cases e <;> first | exact hQ.elim | exact hK _ c' a' w' σ' hQ hw' hr' hx hd
theorem TAW.cond {P : Program} {x : Operand} {t e : Code} {σ : TS} {Q : Exit -> TS -> Prop} {b : Bool} (hc : σ.eval x = .v .bool b) (h : TAW P (if b then t else e) σ Q) : TAW P (.cond x t e) σ Q := by
 intro c a w Q' hr hw hK ro hro;have he := hr.2.2.eval x;rw [zm hc (by simp)] at he
 simp only [TV.pv, pvU, VR] at he;exact wpIn_cond he.1 (h c a w Q' hr hw hK ro hro)
theorem TAW.region {R : Type} {P : Program} {V : Env} (hV : EnvsOK P V) {own : List Nat} {id : Nat} {ops : Array Oper} {σ : TS} {k : TS -> Option R} {r : R} (hcm : zh2 ops.toList = true) (h : y9t P V own ops ops.toList 0 σ k = some r) :
  TAW P (.region id ops false) σ (fun e σ' => e = .normal /\ k σ' = some r) := by
 intro c a w Q' hr hw hK ro _;refine wpIn_mono (Q := fun e a w => e = .normal /\ Q' e a w) (wpIn_region (ybw hcm yqd _ _ _ ?_)) fun _ _ _ h => h.2
 have := (zm6 hV ops.toList 0 (by simp) hw h).2 (Q' := fun e a w => e = .normal /\ Q' e a w) hr fun c' a' w' σ' hk hw' hr' hx hd => ⟨rfl, hK .normal c' a' w' σ' ⟨rfl, hk⟩ hw' hr' hx (.of_eq hd)⟩
 rw [List.range_eq_range'];simpa using this
theorem TAW.draw (hV : EnvsOK P V) {own ps : List Nat} {id : Nat} {ops : Array Oper} {k : TS -> Option R} {r : R} (hcm : zh2 ops.toList = true) (hm : P.follows .mixedOrders = true) (hok : zgd ops ps 0 = true)
  (hdn : ops.toList.all (fun o => o.dst.all (fun d => decide (d < σ.n))) = true) (h : z8o P V own ops k ps 0 σ = some r) :
  TAW P (.region id ops true) σ (fun e σ' => e = .normal /\ k σ' = some r) := by
 intro c a w Q' hr hw hK ro _;have hx0 := zej hr.2.1 (w.drawn + 1);have hr0 : RelT { w with drawn := w.drawn + 1 } c σ a := ⟨hr.1, hx0.1, hr.2.2.ext hx0.2⟩;refine wpIn_mono (Q := fun e a w => e = .normal /\ Q' e a w) (wpIn_region_any hm (yam hcm yqd _ _ _ _ ?_)) fun _ _ _ h => h.2
 refine ynd hV (n := σ.n) (fun o ho => kV.1 hdn o ho) ps 0 (c := c) ops.size _ rfl hok h hw hr0 (by simp) ?_ ?_ ?_ fun c' a' w' σ' hk hw' hr' hx hd => ⟨rfl, hK .normal c' a' w' σ' ⟨rfl, hk⟩ hw' hr' (hr.andX hr0 (zv3 hr.noT hx0.2) hx) (.of_eq hd)⟩
 ·intro j hj;simp only [Array.getD_eq_getD_getElem?, Array.getElem?_replicate, hj, if_true, ky]; simp
 ·intro j o e hD;simp only [Array.getD_eq_getD_getElem?, Array.getElem?_replicate] at hD;split at hD <;> simp at hD
 ·unfold left;refine lD (List.length_filter_le _ _) ?_;simp
theorem TAW.skip {P : Program} {σ : TS} {Q : Exit -> TS -> Prop} (h : Q .normal σ) : TAW P .skip σ Q :=
 fun c a w _ hr hw hK ro _ => wpIn_skip (hK .normal c a w σ h hw hr (ExtP.refl _ _ _) (.of_eq rfl))
theorem TAW.label {P : Program} {l : Nat} {σ : TS} {Q : Exit -> TS -> Prop} (h : Q .normal σ) : TAW P (.label l) σ Q :=
 fun c a w _ hr hw hK ro _ => wpIn_label (hK .normal c a w σ h hw hr (ExtP.refl _ _ _) (.of_eq rfl))
theorem TAW.ret {P : Program} {σ : TS} {Q : Exit -> TS -> Prop} (h : Q .ret σ) : TAW P .ret σ Q :=
 fun c a w _ hr hw hK ro _ => wpIn_ret (hK .ret c a w σ h hw hr (ExtP.refl _ _ _) (.of_eq rfl))
theorem TAW.exit {P : Program} {id : Nat} {σ : TS} {Q : Exit -> TS -> Prop} (h : Q (.exit id) σ) : TAW P (.exit id) σ Q :=
 fun c a w _ hr hw hK ro _ => wpIn_exit (hK (.exit id) c a w σ h hw hr (ExtP.refl _ _ _) (.of_eq rfl))
def TLoop (P : Program) (x : Code) (σ : TS) (Q : Exit -> TS -> Prop) : Prop :=
 ∀ c a w (Q' : Exit -> Act -> World -> Prop), RelT w c σ a -> σ.wf ->
  (∀ e c' a' w' σ', Q e σ' -> σ'.wf -> RelT w' c' σ' a' -> ExtP σ.p w c w' c' -> Mk w w' c' a.defers a'.defers -> Q' e a' w') ->
  ∀ (ro : Option Nat), RecOK ro w c -> ∀ (b : Frame) (k : List Go.Item) (cs : List Frame), b.roundOf = ro -> ∃ e a2 w2, Q' e a2 w2 /\ ArrivesIn (Machine.fenced P (Wd ro)) P (lone (b.atR a (.code x :: .inLoop x :: k)) cs w) b k cs e a2 w2
theorem TLoop.step {Q : Exit -> TS -> Prop} (h : TAW P x σ (yxi (fun σ' => TLoop P x σ' Q) Q)) : TLoop P x σ Q := by
 intro c a w Q' hrel hw hK ro hrec b k cs hro;obtain ⟨e, a1, w1, hq, harr⟩ := h c a w
  (Exit.then (fun a2 w2 => ∃ σ2 c2, TLoop P x σ2 Q /\ σ2.wf /\ RelT w2 c2 σ2 a2 /\ ExtP σ.p w c w2 c2 /\ Mk w w2 c2 a.defers a2.defers) Q') hrel hw (fun e c2 a2 w2 σ2 hQ hw2 hr2 hx2 hd2 => by
  cases e with
  | normal => exact ⟨σ2, c2, hQ, hw2, hr2, hx2, hd2⟩
  | exit id => exact hK _ c2 a2 w2 σ2 hQ hw2 hr2 hx2 hd2
  | goto l => exact hK _ c2 a2 w2 σ2 hQ hw2 hr2 hx2 hd2
  | ret => exact hK _ c2 a2 w2 σ2 hQ hw2 hr2 hx2 hd2
  | panic ch => exact hK _ c2 a2 w2 σ2 hQ hw2 hr2 hx2 hd2
  | outgrown => exact hK _ c2 a2 w2 σ2 hQ hw2 hr2 hx2 hd2) ro hrec b (.inLoop x :: k) cs hro trivial (ymt _ _)
 cases e with
 | normal =>
  obtain ⟨σ2, c2, hL, hw2, hr2, hx2, hd2⟩ := hq;obtain ⟨e2, a2, w2, hq2, harr2⟩ := hL c2 a1 w1 Q' hr2 hw2 (fun e c3 a3 w3 σ3 hQ hw3 hr3 hx3 hd3 => hK e c3 a3 w3 σ3 hQ hw3 hr3 (hrel.andX hr2 hx2 hx3) (hd2.trans hx2.size hx3 hd3)) ro (hrec.ext hx2) b k cs hro
  have h1 : StepsIn (Machine.fenced P (Wd ro)) P (lone (b.atR a (.code x :: .inLoop x :: k)) cs w) (lone (b.atR a1 (.inLoop x :: k)) cs w1) := harr;have h2 : StepsIn (Machine.fenced P (Wd ro)) P (lone (b.atR a1 (.inLoop x :: k)) cs w1) (lone (b.atR a1 (.code x :: .inLoop x :: k)) cs w1) := .one (z40 ro P _) stepR_inLoop;exact ⟨e2, a2, w2, hq2, .of_steps (h1.trans h2) harr2⟩
 | exit id => exact ⟨_, a1, w1, hq, .pass (x := .inLoop x) rfl (fun _ _ => .inl (by simp)) harr⟩
 | goto l => exact ⟨_, a1, w1, hq, .pass (x := .inLoop x) rfl (fun _ _ => .inl (by simp)) harr⟩
 | ret => exact ⟨_, a1, w1, hq, .pass (x := .inLoop x) rfl (fun _ _ => .inl (by simp)) harr⟩
 | panic ch => exact ⟨_, a1, w1, hq, .pass (x := .inLoop x) rfl (fun _ _ => .inl (by simp)) harr⟩
 | outgrown => exact ⟨_, a1, w1, hq, .pass (x := .inLoop x) rfl (fun _ _ => .inl (by simp)) harr⟩
theorem TLoop.wk {σ σ2 : TS} {Q : Exit -> TS -> Prop} (hk : Wk σ σ2) (h : TLoop P x σ2 Q) : TLoop P x σ Q := by
 intro c a w Q' hr hw hK ro hro;obtain ⟨c2, hr2, hx⟩ := hk.2 w c a hr;have h0 := hx w c (ExtP.refl _ _ _);exact h c2 a w Q' hr2 hk.1 (fun e c' a' w' σ' hQ hw' hr' hx' hd => hK e c' a' w' σ' hQ hw' hr' (hr.andX hr2 h0 hx') hd) ro (hro.ext h0)
theorem TLoop.loop {P : Program} {x : Code} {σ : TS} {Q : Exit -> TS -> Prop} (h : TLoop P x σ Q) : TAW P (.loop x) σ Q := by
 intro c a w Q' hrel hw hK ro hrec b k cs hro _ _;obtain ⟨e, a2, w2, hq, harr⟩ := h c a w Q' hrel hw hK ro hrec b k cs hro;exact ⟨e, a2, w2, hq, .of_steps (.one (z40 ro P _) stepR_loop) harr⟩
def iter {S X : Type} (F : S -> Option (S ⊕ X)) : Nat -> S -> Option X
 | 0, _ => none
 | n + 1, s => (F s).bind (Sum.elim (iter F n) some)
theorem y4h {S X : Type} {F : S -> Option (S ⊕ X)} : ∀ {n m : Nat} {s : S} {x : X}, iter F n s = some x -> n <= m -> iter F m s = some x
 | 0, _, _, _, h, _ => by cases h
 | n + 1, 0, _, _, _, h => by omega
 | n + 1, m + 1, s, x, h, hm => by
  simp only [iter] at h ⊢;rw [kF] at h ⊢;obtain ⟨y, h1, h2⟩ := h;refine ⟨y, h1, ?_⟩;cases y with
  | inl s' => exact y4h h2 (by omega)
  | inr z => exact h2
open Classical in
noncomputable def zb {S X : Type} (F : S -> Option (S ⊕ X)) (s : S) : Option X :=
 if h : ∃ n x, iter F n s = some x then some h.choose_spec.choose else none
theorem zdn {S X : Type} {F : S -> Option (S ⊕ X)} {s : S} {x : X} : zb F s = some x ↔ ∃ n, iter F n s = some x := by
 unfold zb;constructor
 ·intro h;split at h
  ·rename_i hx;cases h;exact ⟨hx.choose, hx.choose_spec.choose_spec⟩
  ·cases h
 ·rintro ⟨n, h⟩;have hx : ∃ n x, iter F n s = some x := ⟨n, x, h⟩;rw [dif_pos hx];have h2 := hx.choose_spec.choose_spec;have a := y4h h (Nat.le_max_left n hx.choose);have b := y4h h2 (Nat.le_max_right n hx.choose);rw [a] at b;exact b.symm
theorem zL {S X : Type} (F : S -> Option (S ⊕ X)) (s : S) : zb F s = (F s).bind (Sum.elim (zb F) some) := by
 apply Option.ext;intro x;rw [zdn];constructor
 ·rintro ⟨n, h⟩;cases n with
  | zero => cases h
  | succ n =>
   simp only [iter] at h;rw [kF] at h ⊢;obtain ⟨y, h1, h2⟩ := h;refine ⟨y, h1, ?_⟩;cases y with
   | inl s' => exact zdn.2 ⟨n, h2⟩
   | inr z => exact h2
 ·intro h;rw [kF] at h;obtain ⟨y, h1, h2⟩ := h;cases y with
  | inl s' =>
   obtain ⟨n, hn⟩ := zdn.1 h2;exact ⟨n + 1, by simp only [iter]; rw [h1]; exact hn⟩
  | inr z => exact ⟨1, by simp only [iter]; rw [h1]; exact h2⟩
def Den : Type 1 := {R : Type} -> TS -> (Exit -> TS -> Option R) -> Option R
structure SoundD (P : Program) (x : Code) (d : Den) : Prop where
 taw : ∀ (R : Type) (σ : TS) (k : Exit -> TS -> Option R) (r : R), d σ k = some r -> TAW P x σ (fun e σ' => k e σ' = some r)
 wf : ∀ (R : Type) (σ : TS) (k : Exit -> TS -> Option R) (r : R), σ.wf -> d σ k = some r -> ∃ e σ', σ'.wf /\ k e σ' = some r
inductive HT : Type 1 where
 | no
 | two (a b : HT)
 | join (X : TS -> XS) (a b : HT)
 | over (d : {R : Type} -> TS -> (Exit -> TS -> Option R) -> Option R)
 | run (n : Nat)
 | reg (own ps : List Nat)
def HT.l : HT -> HT
 | .two a _ | .join _ a _ => a
 | .run n => .run n
 | _ => .no
def HT.r : HT -> HT
 | .two _ b | .join _ _ b => b
 | .run n => .run n
 | _ => .no
def HT.own : HT -> List Nat
 | .reg own _ => own
 | _ => []
def HT.ps : HT -> Nat -> List Nat
 | .reg _ ps, _ => ps
 | _, 0 => []
 | _, n => [n]
def zrp (d : {R : Type} -> TS -> (Exit -> TS -> Option R) -> Option R) : Nat -> {R : Type} -> TS -> (Exit -> TS -> Option R) -> Option R
 | 0, _, _, _ => none
 | n + 1, _, σ, k => d σ fun e σ' => match e with
  | .normal => zrp d n (σ'.keep (List.range σ'.n)) k
  | e => k e σ'
noncomputable def zO (P : Program) (V : Env) : Code -> HT -> {R : Type} -> TS -> (Exit -> TS -> Option R) -> Option R
 | .seq a b, h, _, σ, k => match h with
  | .join X ha hb => (zO P V a ha σ (fun e σ' => (X σ).close e σ' some)).bind fun x => (X σ).open' x fun e σ' => match e with
   | .normal => zO P V b hb σ' k
   | e => k e σ'
  | .over d => d σ k
  | h => zO P V a h.l σ fun e σ' => match e with
   | .normal => zO P V b h.r σ' k
   | e => k e σ'
 | .region _ ops draw, h, _, σ, k => bif zh2 ops.toList then match draw with
  | false => y9t P V h.own ops ops.toList 0 σ fun σ' => k .normal σ'
  | true => bif P.follows .mixedOrders && zgd ops (h.ps ops.size) 0 && ops.toList.all (fun o => o.dst.all (fun d => decide (d < σ.n))) then z8o P V h.own ops (fun σ' => k .normal σ') (h.ps ops.size) 0 σ else none
  else none
 | .skip, _, _, σ, k => k .normal σ
 | .label _, _, _, σ, k => k .normal σ
 | .ret, _, _, σ, k => k .ret σ
 | .exit id, _, _, σ, k => k (.exit id) σ
 | .cond x t e, h, _, σ, k => match σ.eval x with
  | .v .bool b => cond b (zO P V t h.l σ k) (zO P V e h.r σ k)
  | _ => none
 | .block id x, h, _, σ, k => zO P V x h σ fun e σ' => match e with
  | .exit id' => bif kC id' id then k .normal σ' else k (.exit id') σ'
  | e => k e σ'
 | .scope x, h, _, σ, k => zO P V x h σ fun e σ' => match e with
  | .goto _ => none
  | e => k e σ'
 | .loop x, h, _, σ, k => match h with
  | .over d => d σ k
  | .run n => zrp (fun σ k => zO P V x (.run n) σ k) n σ k
  | _ => none
 | .rangeFunc _ _ _ _, h, _, σ, k => match h with
  | .over d => d σ k
  | _ => none
 | _, _, _, _, _ => none
def HOK (P : Program) : Code -> HT -> Prop
 | .seq a b, h => match h with
  | .join X ha hb => (∀ σ, (X σ).OK) /\ HOK P a ha /\ HOK P b hb
  | .over d => SoundD P (.seq a b) d
  | h => HOK P a h.l /\ HOK P b h.r
 | .cond _ t e, h => HOK P t h.l /\ HOK P e h.r
 | .block _ x, h => HOK P x h
 | .scope x, h => HOK P x h
 | .loop x, h => match h with
  | .over d => SoundD P (.loop x) d
  | .run n => HOK P x (.run n)
  | _ => True
 | .rangeFunc g ps x y, h => match h with
  | .over d => SoundD P (.rangeFunc g ps x y) d
  | _ => True
 | _, _ => True
theorem z4b (P : Program) (n : Nat) : ∀ x : Code, HOK P x (.run n)
 | .seq a b => ⟨z4b P n a, z4b P n b⟩
 | .cond _ t e => ⟨z4b P n t, z4b P n e⟩
 | .block _ x => z4b P n x
 | .scope x => z4b P n x
 | .loop x => z4b P n x
 | .region _ _ _ | .skip | .label _ | .ret | .exit _ | .rangeFunc _ _ _ _ | .goto _ | .refuse _ => trivial
theorem z6z (P : Program) : ∀ x : Code, HOK P x .no
 | .seq a b => ⟨z6z P a, z6z P b⟩
 | .cond _ t e => ⟨z6z P t, z6z P e⟩
 | .block _ x => z6z P x
 | .scope x => z6z P x
 | .loop _ => trivial
 | .region _ _ _ | .skip | .label _ | .ret | .exit _ | .rangeFunc _ _ _ _ | .goto _ | .refuse _ => trivial
theorem zn9 (hV : EnvsOK P V) : ∀ (x : Code) (h : HT) {R : Type} {σ : TS} {k : Exit -> TS -> Option R} {r : R}, HOK P x h -> zO P V x h σ k = some r -> TAW P x σ (fun e σ' => k e σ' = some r) := by
 intro x
 induction x with
 | skip => intro h R σ k r _ hh; simp only [zO] at hh; exact TAW.skip hh
 | label l => intro h R σ k r _ hh; simp only [zO] at hh; exact TAW.label hh
 | ret => intro h R σ k r _ hh; simp only [zO] at hh; exact TAW.ret hh
 | exit id => intro h R σ k r _ hh; simp only [zO] at hh; exact TAW.exit hh
 | region id ops draw =>
  intro h R σ k r _ hh;simp only [zO] at hh;cases hcm : zh2 ops.toList with
  | false => rw [hcm] at hh; cases hh
  | true =>
  rw [hcm, cond_true] at hh;cases draw with
  | false => exact (TAW.region hV hcm hh).mono fun e σ' ⟨h1, h2⟩ => by rw [h1]; exact h2
  | true =>
   simp only at hh;cases hc : P.follows .mixedOrders && zgd ops (h.ps ops.size) 0 && ops.toList.all (fun o => o.dst.all (fun d => decide (d < σ.n))) with
   | false => rw [hc] at hh; cases hh
   | true =>
    rw [hc] at hh;simp only [kD] at hc;exact (TAW.draw hV hcm hc.1.1 hc.1.2 hc.2 hh).mono fun e σ' ⟨h1, h2⟩ => by rw [h1]; exact h2
 | seq a b iha ihb =>
  intro h R σ k r hok hh;have plain : ∀ ha hb : HT, HOK P a ha -> HOK P b hb -> (zO P V a ha σ fun e σ' => match e with | .normal => zO P V b hb σ' k | e => k e σ') = some r -> TAW P (.seq a b) σ (fun e σ' => k e σ' = some r) := by
   intro ha hb h1 h2 hh;refine TAW.seq ((iha ha h1 hh).mono fun e σ' he => ?_)
   cases e <;> first | exact he | skip
   exact ihb hb h2 he
  cases h with
  | no => simp only [zO] at hh; exact plain _ _ hok.1 hok.2 hh
  | run n => simp only [zO] at hh; exact plain _ _ hok.1 hok.2 hh
  | two ha hb => simp only [zO] at hh; exact plain _ _ hok.1 hok.2 hh
  | reg o q => simp only [zO] at hh; exact plain _ _ hok.1 hok.2 hh
  | over d => simp only [zO] at hh; exact hok.taw R σ k r hh
  | join X ha hb =>
   simp only [zO] at hh;obtain ⟨hX, h1, h2⟩ := hok;rw [kF] at hh;obtain ⟨x, hx, hh⟩ := hh;rw [(hX σ).open'] at hh;have h3 := iha ha h1 hx;refine TAW.seq ?_;intro c a' w Q' hr hw hK;refine h3 c a' w Q' hr hw fun e c' a2 w' σ' he hw' hr' hxt hd => ?_
   obtain ⟨x', g1, g2, g3⟩ := (hX σ).close (X σ).T e σ' some x hw' he;cases g1;obtain ⟨c2, hr2, hx2⟩ := g3.2 w' c' a2 hr';have hx2' := hx2;rw [hr.p hr' hxt] at hx2';refine hK e c2 a2 w' ((X σ).at' x).2 ?_ g3.1 hr2 (hx2' _ _ hxt) (hd.ext (hx2 _ _ (ExtP.refl _ _ _)));rw [g2] at hh;cases e <;> first | exact hh | skip
   exact ihb hb h2 hh
 | cond x t e iht ihe =>
  intro h R σ k r hok hh;simp only [zO] at hh;split at hh
  ·rename_i b hb;refine TAW.cond hb ?_;cases b with
   | true => exact iht _ hok.1 hh
   | false => exact ihe _ hok.2 hh
  ·cases hh
 | block id x ih =>
  intro h R σ k r hok hh;simp only [zO] at hh;refine TAW.block ((ih h hok hh).mono fun e σ' he => ?_)
  cases e with
  | exit id' =>
   simp only [ykd];simp only at he;cases hb : kC id' id with
   | true => rw [hb] at he; exact he
   | false => rw [hb] at he; exact he
  | _ => exact he
 | scope x ih =>
  intro h R σ k r hok hh;simp only [zO] at hh;refine TAW.scope ((ih h hok hh).mono fun e σ' he => ?_)
  cases e <;> first | exact he | cases he
 | loop x ih =>
  intro h R σ k r hok hh;cases h with
  | over d => simp only [zO] at hh; exact hok.taw R σ k r hh
  | run n =>
   simp only [zO] at hh;refine TLoop.loop ?_;have key : ∀ (m : Nat) (σ : TS), zrp (fun σ k => zO P V x (.run n) σ k) m σ k = some r -> TLoop P x σ (fun e σ' => k e σ' = some r) := by
    intro m
    induction m with
    | zero => intro σ h; cases h
    | succ m ihm =>
     intro σ h;simp only [zrp] at h;refine TLoop.step ((ih (.run n) hok h).mono fun e σ' he => ?_)
     cases e <;> first | exact he | skip
     intro c a w Q' hr hw hK;refine ihm _ he c a w Q' ?_ (ydm hw _) hK;refine ⟨hr.1, ?_⟩;rw [y4b];exact hr.2.keep _
   exact key n σ hh
  | _ => simp [zO] at hh
 | rangeFunc g ps x y _ _ =>
  intro h R σ k r hok hh;cases h with
  | over d => simp only [zO] at hh; exact hok.taw R σ k r hh
  | _ => simp [zO] at hh
 | _ => intro h R σ k r hok hh; simp [zO] at hh
theorem zse (hV : EnvsOK P V) : ∀ (x : Code) (h : HT) {R : Type} {σ : TS} {k : Exit -> TS -> Option R} {r : R}, HOK P x h -> σ.wf -> zO P V x h σ k = some r -> ∃ e σ', σ'.wf /\ k e σ' = some r := by
 intro x
 induction x with
 | skip => intro h R σ k r _ hw hh; simp only [zO] at hh; exact ⟨_, σ, hw, hh⟩
 | label l => intro h R σ k r _ hw hh; simp only [zO] at hh; exact ⟨_, σ, hw, hh⟩
 | ret => intro h R σ k r _ hw hh; simp only [zO] at hh; exact ⟨_, σ, hw, hh⟩
 | exit id => intro h R σ k r _ hw hh; simp only [zO] at hh; exact ⟨_, σ, hw, hh⟩
 | region id ops draw =>
  intro h R σ k r _ hw hh;simp only [zO] at hh;cases hcm : zh2 ops.toList with
  | false => rw [hcm] at hh; cases hh
  | true =>
  rw [hcm, cond_true] at hh;cases draw with
  | false => obtain ⟨σ', h1, h2⟩ := (zm6 hV _ 0 (by simp) hw hh).1; exact ⟨_, σ', h1, h2⟩
  | true =>
   simp only at hh;cases hc : P.follows .mixedOrders && zgd ops (h.ps ops.size) 0 && ops.toList.all (fun o => o.dst.all (fun d => decide (d < σ.n))) with
   | false => rw [hc] at hh; cases hh
   | true =>
    rw [hc] at hh;obtain ⟨σ', h1, h2⟩ := ysk hV _ _ hw hh;exact ⟨_, σ', h1, h2⟩
 | seq a b iha ihb =>
  intro h R σ k r hok hw hh;have plain : ∀ ha hb : HT, HOK P a ha -> HOK P b hb -> (zO P V a ha σ fun e σ' => match e with | .normal => zO P V b hb σ' k | e => k e σ') = some r -> ∃ e σ', σ'.wf /\ k e σ' = some r := by
   intro ha hb h1 h2 hh;obtain ⟨e, σ', hw', he⟩ := iha ha h1 hw hh;cases e <;> first | exact ⟨_, σ', hw', he⟩ | skip
   exact ihb hb h2 hw' he
  cases h with
  | no => simp only [zO] at hh; exact plain _ _ hok.1 hok.2 hh
  | run n => simp only [zO] at hh; exact plain _ _ hok.1 hok.2 hh
  | two ha hb => simp only [zO] at hh; exact plain _ _ hok.1 hok.2 hh
  | reg o q => simp only [zO] at hh; exact plain _ _ hok.1 hok.2 hh
  | over d => simp only [zO] at hh; exact hok.wf R σ k r hw hh
  | join X ha hb =>
   simp only [zO] at hh;obtain ⟨hX, h1, h2⟩ := hok;rw [kF] at hh;obtain ⟨x, hx, hh⟩ := hh;rw [(hX σ).open'] at hh;obtain ⟨e, σ', hw', he⟩ := iha ha h1 hw hx;obtain ⟨x', g1, g2, g3⟩ := (hX σ).close (X σ).T e σ' some x hw' he;cases g1;rw [g2] at hh;cases e <;> first | exact ⟨_, _, g3.1, hh⟩ | skip
   exact ihb hb h2 g3.1 hh
 | cond x t e iht ihe =>
  intro h R σ k r hok hw hh;simp only [zO] at hh;split at hh
  ·rename_i b hb;cases b with
   | true => exact iht _ hok.1 hw hh
   | false => exact ihe _ hok.2 hw hh
  ·cases hh
 | block id x ih =>
  intro h R σ k r hok hw hh;simp only [zO] at hh;obtain ⟨e, σ', hw', he⟩ := ih h hok hw hh;cases e with
  | exit id' =>
   simp only at he;cases hb : kC id' id with
   | true => rw [hb] at he; exact ⟨_, σ', hw', he⟩
   | false => rw [hb] at he; exact ⟨_, σ', hw', he⟩
  | _ => exact ⟨_, σ', hw', he⟩
 | scope x ih =>
  intro h R σ k r hok hw hh;simp only [zO] at hh;obtain ⟨e, σ', h1, h2⟩ := ih h hok hw hh;cases e <;> first | exact ⟨_, σ', h1, h2⟩ | cases h2
 | loop x ih =>
  intro h R σ k r hok hw hh;cases h with
  | over d => simp only [zO] at hh; exact hok.wf R σ k r hw hh
  | run n =>
   simp only [zO] at hh;have key : ∀ (m : Nat) (σ : TS), σ.wf -> zrp (fun σ k => zO P V x (.run n) σ k) m σ k = some r -> ∃ e σ', σ'.wf /\ k e σ' = some r := by
    intro m
    induction m with
    | zero => intro σ _ h; cases h
    | succ m ihm =>
     intro σ hw h;simp only [zrp] at h;obtain ⟨e, σ', hw', he⟩ := ih (.run n) hok hw h;cases e <;> first | exact ⟨_, σ', hw', he⟩ | skip
     exact ihm _ (ydm hw' _) he
   exact key n σ hw hh
  | _ => simp [zO] at hh
 | rangeFunc g ps x y _ _ =>
  intro h R σ k r hok hw hh;cases h with
  | over d => simp only [zO] at hh; exact hok.wf R σ k r hw hh
  | _ => simp [zO] at hh
 | _ => intro h R σ k r hok hw hh; simp [zO] at hh
inductive Obl : Type 1 where
 | den (x : Code) (d : {R : Type} -> TS -> (Exit -> TS -> Option R) -> Option R)
 | xs (X : TS -> XS)
def Obl.OK (P : Program) : Obl -> Prop
 | .den x d => SoundD P x d
 | .xs X => ∀ σ, (X σ).OK
def obl : Code -> HT -> List Obl
 | .seq a b, h => match h with
  | .join X ha hb => .xs X :: (obl a ha ++ obl b hb)
  | .over d => [.den (.seq a b) d]
  | .no => []
  | .run _ => []
  | .two ha hb => obl a ha ++ obl b hb
  | .reg _ _ => []
 | .cond _ t e, h => match h with
  | .no => []
  | .run _ => []
  | h => obl t h.l ++ obl e h.r
 | .block _ x, h => match h with
  | .no => []
  | .run _ => []
  | h => obl x h
 | .scope x, h => match h with
  | .no => []
  | .run _ => []
  | h => obl x h
 | .loop x, h => match h with
  | .over d => [.den (.loop x) d]
  | _ => []
 | .rangeFunc g ps x y, h => match h with
  | .over d => [.den (.rangeFunc g ps x y) d]
  | _ => []
 | _, _ => []
def y3p (P : Program) : List Obl -> Prop
 | [] => True
 | o :: l => o.OK P /\ y3p P l
theorem yak {P : Program} : ∀ {l : List Obl}, y3p P l ↔ ∀ o, o ∈ l -> o.OK P
 | [] => by simp [y3p]
 | o :: l => by simp [y3p, yak (l := l)]
theorem ylz : ∀ (x : Code) (h : HT), (∀ o, o ∈ obl x h -> o.OK P) -> HOK P x h := by
 intro x
 induction x with
 | seq a b iha ihb =>
  intro h ho;cases h with
  | no => exact ⟨z6z P a, z6z P b⟩
  | run n => exact ⟨z4b P n a, z4b P n b⟩
  | two ha hb => exact ⟨iha _ fun o h => ho o (kb _ h), ihb _ fun o h => ho o (ks _ h)⟩
  | reg _ _ => exact ⟨z6z P a, z6z P b⟩
  | over d => exact ho _ (kK.2 rfl)
  | join X ha hb => exact ⟨ho (.xs X) (List.mem_cons_self ..), iha _ fun o h => ho o (List.mem_cons_of_mem _ (kb _ h)), ihb _ fun o h => ho o (List.mem_cons_of_mem _ (ks _ h))⟩
 | cond x t e iht ihe =>
  intro h ho;cases h with
  | no => exact ⟨z6z P t, z6z P e⟩
  | run n => exact ⟨z4b P n t, z4b P n e⟩
  | _ => exact ⟨iht _ fun o h => ho o (kb _ h), ihe _ fun o h => ho o (ks _ h)⟩
 | block id x ih =>
  intro h ho;cases h with
  | no => exact z6z P x
  | run n => exact z4b P n x
  | _ => exact ih _ ho
 | scope x ih =>
  intro h ho;cases h with
  | no => exact z6z P x
  | run n => exact z4b P n x
  | _ => exact ih _ ho
 | loop x ih =>
  intro h ho;cases h with
  | over d => exact ho _ (kK.2 rfl)
  | run n => exact z4b P n x
  | _ => trivial
 | rangeFunc g ps x y _ _ =>
  intro h ho;cases h with
  | over d => exact ho _ (kK.2 rfl)
  | _ => trivial
 | _ => intro h _; trivial
theorem ze {h : HT} (l : List Obl) (hl : obl x h = l) (ho : y3p P l) : HOK P x h := ylz x h (by rw [hl]; exact yak.1 ho)
def zl (S : XE) (X : XS) (f : S.T -> Option X.T) : {R : Type} -> TS -> (Exit -> TS -> Option R) -> Option R := fun σ k => S.close σ fun s => (f s).bind fun x => X.open' x k
noncomputable def yxf (P : Program) (V : Env) (x : Code) (h : HT) (S : XE) (X : XS) (s : S.T) : Option (S.T ⊕ X.T) :=
 zO P V x h (S.st s) fun e σ' => match e with
  | .normal => S.close σ' fun s' => some (.inl s')
  | e => X.close e σ' fun x => some (.inr x)
theorem zG (hV : EnvsOK P V) {h : HT} {S : XE} {X : XS} (hok : HOK P x h) (hS : S.OK) (hX : X.OK) (g : S.T -> Option (S.T ⊕ X.T)) (hg : ∀ s, yxf P V x h S X s = g s) :
  SoundD P (.loop x) (zl S X (zb g)) := by
 refine ⟨?taw, ?wf⟩
 case wf =>
  intro R σ k r hw hh;simp only [zl] at hh;obtain ⟨s, h1, h2⟩ := hS R σ _ r hw hh;rw [kF] at h1;obtain ⟨xx, h3, h4⟩ := h1;obtain ⟨n, hn⟩ := zdn.1 h3;have key : ∀ (n : Nat) (s : S.T) (xx : X.T), (S.st s).wf -> iter g n s = some xx -> (X.at' xx).2.wf := by
   intro n
   induction n with
   | zero => intro s xx _ h; cases h
   | succ n ih =>
    intro s xx hws hi;simp only [iter] at hi;rw [kF] at hi;obtain ⟨y, hy, hi⟩ := hi;rw [<- hg] at hy;obtain ⟨e, σ', hw', he⟩ := zse hV x h hok hws hy;have fin : (X.close e σ' fun x => some (Sum.inr x)) = some y -> (X.at' xx).2.wf := fun hc => by
     obtain ⟨x', g1, g2, g3⟩ := hX.close _ e σ' _ y hw' hc;cases g1;cases hi;exact g3.1
    cases e with
    | normal =>
     obtain ⟨s', g1, g2⟩ := hS _ σ' _ y hw' he;cases g1;exact ih s' xx g2.1 hi
    | exit id => exact fin he
    | goto l => exact fin he
    | ret => exact fin he
    | panic ch => exact fin he
    | outgrown => exact fin he
  rw [hX.open'] at h4;exact ⟨_, _, key n s xx h2.1 hn, h4⟩
 intro R σ k r hh;simp only [zl] at hh;have key : ∀ (n : Nat) (s : S.T) (xx : X.T), iter g n s = some xx -> TLoop P x (S.st s) (fun e σ' => k e σ' = some r) \/ X.open' xx k ≠ some r := by
  intro n
  induction n with
  | zero => intro s xx h; cases h
  | succ n ih =>
   intro s xx hi
   by_cases hop : X.open' xx k = some r
   ·refine .inl (TLoop.step ?_);simp only [iter] at hi;rw [kF] at hi;obtain ⟨y, hy, hi⟩ := hi;rw [<- hg] at hy;have h1 := zn9 hV x h hok hy;intro c a w Q' hr hw hK;refine h1 c a w Q' hr hw fun e c' a2 w' σ' he hw' hr' hxt hd => ?_
    have fin : ∀ e, e ≠ .normal -> (X.close e σ' fun x => some (Sum.inr x)) = some y -> Q' e a2 w' := by
     intro e hne hc;obtain ⟨x', g1, g2, g3⟩ := hX.close _ e σ' _ y hw' hc;cases g1;cases hi;obtain ⟨c2, hr2, hx2⟩ := g3.2 w' c' a2 hr';have hx2' := hx2;rw [hr.p hr' hxt] at hx2';refine hK e c2 a2 w' (X.at' xx).2 ?_ g3.1 hr2 (hx2' _ _ hxt) (hd.ext (hx2 _ _ (ExtP.refl _ _ _)));rw [hX.open', g2] at hop;cases e <;> first | exact hop | exact absurd rfl hne
    cases e with
    | normal =>
     obtain ⟨s', g1, g2⟩ := hS _ σ' _ y hw' he;cases g1;refine hK .normal c' a2 w' σ' ?_ hw' hr' hxt hd;rcases ih s' xx hi with h2 | h2
     ·exact TLoop.wk g2 h2
     ·exact absurd hop h2
    | exit id => exact fin _ (by simp) he
    | goto l => exact fin _ (by simp) he
    | ret => exact fin _ (by simp) he
    | panic ch => exact fin _ (by simp) he
    | outgrown => exact fin _ (by simp) he
   ·exact .inr hop
 intro c a w Q' hr hw hK;obtain ⟨s, h1, h2⟩ := hS R σ _ r hw hh;rw [kF] at h1;obtain ⟨xx, h3, h4⟩ := h1;obtain ⟨n, hn⟩ := zdn.1 h3;rcases key n s xx hn with h5 | h5
 ·exact TAW.wk h2 (TLoop.loop h5) c a w Q' hr hw hK
 ·exact absurd h4 h5
def ymy (f : TS -> Bool) (X Y : TS -> XS) : TS -> XS := fun σ => bif f σ then X σ else Y σ
theorem qB {X : XS} (h : X.OK) : ∀ σ : TS, ((fun _ => X) σ).OK := fun _ => h
theorem yux {f : TS -> Bool} {X Y : TS -> XS} (h : ∀ σ, (X σ).OK) (g : ∀ σ, (Y σ).OK) : ∀ σ, (ymy f X Y σ).OK := fun σ => by
 unfold ymy;cases f σ with
 | true => exact h σ
 | false => exact g σ
def yhk (f : TS -> Bool) (d1 d2 : {R : Type} -> TS -> (Exit -> TS -> Option R) -> Option R) : {R : Type} -> TS -> (Exit -> TS -> Option R) -> Option R := fun σ k => bif f σ then d1 σ k else d2 σ k
theorem yuw {f : TS -> Bool} {d1 d2 : {R : Type} -> TS -> (Exit -> TS -> Option R) -> Option R} (h1 : SoundD P x d1) (h2 : SoundD P x d2) : SoundD P x (yhk f d1 d2) where
 taw := fun R σ k r h => by
  simp only [yhk] at h;cases hf : f σ with
  | true => rw [hf] at h; exact h1.taw R σ k r h
  | false => rw [hf] at h; exact h2.taw R σ k r h
 wf := fun R σ k r hw h => by
  simp only [yhk] at h;cases hf : f σ with
  | true => rw [hf] at h; exact h1.wf R σ k r hw h
  | false => rw [hf] at h; exact h2.wf R σ k r hw h
end Go.Tm
