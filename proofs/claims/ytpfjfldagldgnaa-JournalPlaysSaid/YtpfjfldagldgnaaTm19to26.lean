import Derived.Test.YtpfjfldagldgnaaTm14to18
import Derived.Test.YtpfjfldagldgnaaAb27toP
import Derived.RangeFuncRecord
import Derived.Test.YtpfjfldagldgnaaAb8to15
open List renaming length → kA, getElem?_map → kB, mem_of_getElem? → kC, getElem?_eq_getElem → kE, length_map → kF, getElem?_eq_some_iff → kG, mem_iff_getElem? → kH, getElem?_append_right → kK, getElem?_append_left → kL, length_replicate → kO, length_append → kP, eq_nil_of_length_eq_zero → kQ, length_cons → kR, mem_cons → kS, mem_append → kT, getElem_mem → kY, length_drop → kZ, length_take → k0, append_nil → ka, length_nil → kb, length_set → kc, mem_map → kh, replicate → ko, range → kr
open Bool renaming and_eq_true → kD
open Option renaming map_some → kI, bind_eq_some_iff → kV, join_some → kj
open Nat renaming eq_of_beq_eq_true → kJ, beq → kM, blt → kN, blt_eq → kU, le_of_ble_eq_true → k9, ble_eq → ke, beq_refl → ki, le_refl → km, ble → kq
open Int renaming toNat_natCast → kW
set_option linter.unusedSimpArgs false
set_option linter.unusedVariables false
namespace Go.Tm
open Go.Ab
def zc7 : List TV -> Nat -> List (Nat × TV)
 | [], _ => []
 | p :: ps, i => (i, p) :: zc7 ps (i + 1)
variable {R : Type}
def yok (P : Program) (σ : TS) (v : ResultVar) (k : TV -> Option R) : Option R :=
 match v with
 | .tmp t => k (σ.get t)
 | .cell a t => ybl P σ.H t (σ.get a) k
def ycf {R : Type} (P : Program) (σ : TS) : List ResultVar -> (List TV -> Option R) -> Option R
 | [], k => k []
 | v :: vs, k => yok P σ v fun t => ycf P σ vs fun ts => k (t :: ts)
def yei (P : Program) (fn : Func) (σ : TS) (k : TV -> Option R) : Option R :=
 ycf P σ fn.results.toList fun ts => match ts with
  | [t] => k t
  | ts => k (.tup ts)
def zN : Code -> List Nat -> Code
 | c, [] => c
 | .seq a _, 0 :: p => zN a p
 | .seq _ b, _ :: p => zN b p
 | .cond _ a _, 0 :: p => zN a p
 | .cond _ _ b, _ :: p => zN b p
 | .block _ x, _ :: p => zN x p
 | .scope x, _ :: p => zN x p
 | .loop x, _ :: p => zN x p
 | .rangeFunc _ _ x _, 0 :: p => zN x p
 | .rangeFunc _ _ _ y, _ :: p => zN y p
 | c, _ => c
def zw (fn : Func) : Code := fn.body.getD .skip
theorem yra {P : Program} {σ : TS} (hw : σ.wf) {v : ResultVar} {k : TV -> Option R} {r : R} (h : yok P σ v k = some r) : ∃ q, k q = some r /\ q.wf /\ yd9 P σ.flat v q.pv := by
 cases v with
 | tmp t => exact ⟨_, h, zsg hw t, zcn σ t⟩
 | cell a t =>
  simp only [yok] at h;obtain ⟨q, h1, h2, h3⟩ := yf9 hw (zsg hw a) h;exact ⟨q, h1, h2, _, zcn σ a, h3 σ.flat.H fun _ _ => rfl⟩
theorem yfk {R : Type} {P : Program} {σ : TS} (hw : σ.wf) : ∀ {vs : List ResultVar} {k : List TV -> Option R} {r : R}, ycf P σ vs k = some r ->
  ∃ qs, k qs = some r /\ vs.length = qs.length /\ (∀ q, q ∈ qs -> q.wf) /\ ∀ (i : Nat) v q, vs[i]? = some v -> qs[i]? = some q -> yd9 P σ.flat v q.pv
 | [], k, r, h => ⟨[], by simpa only [ycf] using h, rfl, fun q hq => (by cases hq), fun i v q hv => by simp at hv⟩
 | v :: vs, k, r, h => by
  simp only [ycf] at h;obtain ⟨q, h1, h2, h3⟩ := yra hw h;obtain ⟨qs, g1, g2, g3, g4⟩ := yfk hw h1;refine ⟨q :: qs, g1, by simp [g2], fun x hx => ?_, fun i v' q' hv hq => ?_⟩
  ·rcases kS.1 hx with rfl | hx
   ·exact h2
   ·exact g3 x hx
  ·cases i with
   | zero => simp at hv hq; subst hv; subst hq; exact h3
   | succ i => exact g4 i v' q' (by simpa using hv) (by simpa using hq)
theorem ytu {P : Program} {fn : Func} {σ : TS} (hw : σ.wf) {k : TV -> Option R} {r : R} (h : yei P fn σ k = some r) : ∃ q, k q = some r /\ q.wf /\ ymw P fn σ.flat q.pv := by
 unfold yei at h;obtain ⟨qs, h1, h2, h3, h4⟩ := yfk hw h;split at h1
 ·rename_i q;obtain ⟨v, hv⟩ := List.length_eq_one_iff.1 h2;exact ⟨q, h1, h3 q (by simp), yw3 (r := v) (vf hv) (h4 0 v q (by rw [hv]; rfl) rfl)⟩
 ·rename_i hne;refine ⟨_, h1, by simp only [TV.wf]; exact xI.2 h3, ?_⟩
  simp only [TV.pv];refine ytt (by rw [qh]; simpa using h2) (fun e => ?_) (fun i v p hv hp => ?_)
  ·rw [qh, kF] at e;obtain ⟨q, rfl⟩ := List.length_eq_one_iff.1 e;exact hne q rfl
  ·rw [qh, kB] at hp;cases hq : qs[i]? with
   | none => rw [hq] at hp; cases hp
   | some q => rw [hq] at hp; simp at hp; subst hp; exact h4 i v q hv hq
theorem zol : ∀ (ts : List TV) (i : Nat), (zc7 ts i).map (fun x => (x.1, x.2.pv)) = zld (ts.map TV.pv) i
 | [], _ => rfl
 | t :: ts, i => by simp only [zc7, List.map_cons, zld, zol ts (i + 1)]
theorem ziw : ∀ {ts : List TV} {i : Nat} {x : Nat × TV}, x ∈ zc7 ts i -> x.2 ∈ ts
 | [], _, _, h => by cases h
 | t :: ts, i, x, h => by
  simp only [zc7, kS] at h;rcases h with rfl | h
  ·simp
  ·simp [ziw h]
theorem noncell {w : World} {c : Cx} {H : List AObj} {D : Nat} {o : Obj} (o' : Obj) (g : Ab.Good w c H []) (hn : ∀ off, w.cell? ⟨D, off, none⟩ = none) (hm : some D ∉ c.m) (hgb : gb <= D) :
  Sees w c (w.putObj D o') c /\ Ab.Good (w.putObj D o') c H [] := by
 have hT : c.T = [] := kQ g.tl;have hne : ∀ b k : Nat, c.m[b]? = some (some k) -> k ≠ D := fun b k h e => hm (e ▸ kC h)
 have x : Sees w c (w.putObj D o') c := by
  refine ⟨fun _ _ h => h, hT, fun a n hf => ?_, fun a n i v hf hi hv => ?_, fun b k vs e fr h hh => ⟨vs, fr, (World.putObj_heap_other (hne b k h)).trans hh, rfl⟩⟩
  ·rcases hf with hf | ⟨h1, h2, h3, h4, h5⟩
   ·exact .inl hf
   ·exact .inr ⟨h1, by simpa using h2, h3, h4, h5⟩
  ·by_cases e : a.block = D
   ·rw [e] at hv; rw [hn] at hv; cases hv
   ·have : (w.putObj D o').cell? ⟨a.block, a.off + i, none⟩ = w.cell? ⟨a.block, a.off + i, none⟩ := jm (World.putObj_heap_other e);rw [this]; exact hv
 refine ⟨x, ⟨g.len, g.inj, fun b o ho => ?_, g.tl, g.tal, g.tdead, fun i k j h => by rw [hT] at h; simp at h, g.tinj, fun k e hk => g.okn k e (by simpa using hk), g.okm, g.okt, g.oko,
  ⟨by simpa using g.gl.sz, g.gl.m, g.gl.T, Glob.stay (fun k hk => World.putObj_heap_other (by omega)) g.gl.var⟩⟩⟩
 have hob := g.obj b o ho;cases o with
 | row cs e =>
  rcases hob with ⟨h1, h2⟩ | ⟨k, vs, fr, h1, h2, hf, h3, hl, h4⟩
  ·exact .inl ⟨h1, h2⟩
  ·exact .inr ⟨k, vs, fr, h1, (World.putObj_heap_other (hne b k h1)).trans h2, hf, h3, hl, VRs.sees x cs (fun _ _ _ e => e) h4⟩
 | raw o =>
  obtain ⟨k, h1, h2⟩ := hob;exact ⟨k, h1, (World.putObj_heap_other (hne b k h1)).trans h2⟩
 | gone => exact hob
theorem zhd {w : World} {D : Nat} {ds : Option (List Deferred)} (h : w.heap[D]? = some (.deferred ds)) (off : Nat) : w.cell? ⟨D, off, none⟩ = none := by
 simp [World.cell?, h]
theorem y6e {p D : Nat} {w w' : World} {c c' : Cx} {o' : Obj} (x : ExtP p w c w' c') (hD : w.heap.size <= D) : ExtP p w c (w'.putObj D o') c' where
 os := x.os
 tape := x.tape
 output := x.output
 size := by simpa using x.size
 new := x.new
 blocks := fun k hk hm => (World.putObj_heap_other (by omega)).trans (x.blocks k hk hm)
 ok := x.ok
 pn := x.pn
 pin := x.pin
 room := fun k vs e fr h => by
  obtain ⟨vs', fr', h1, h2⟩ := x.room k vs e fr h;have hlt : k < w.heap.size := (Array.getElem?_eq_some_iff.1 h).1;exact ⟨vs', fr', (World.putObj_heap_other (by omega)).trans h1, h2⟩
theorem RelT.noncell {w : World} {c : Cx} {σ : TS} {a : Act} {D : Nat} {ds : Option (List Deferred)} (o' : Obj) (hr : RelT w c σ a) (h : w.heap[D]? = some (.deferred ds)) (hm : some D ∉ c.m) (hgb : gb <= D) : RelT (w.putObj D o') c σ a := by
 obtain ⟨x, g⟩ := Tm.noncell (o := .deferred ds) o' hr.2.1 (zhd h) hm hgb;exact ⟨hr.1, g, hr.2.2.1, fun t p hl ht => by
  obtain ⟨v, h1, h2⟩ := hr.2.2.2 t p hl ht;exact ⟨v, h1, VR.sees x _ h2⟩⟩
theorem y4q {P : Program} {func : Func} {w : World} {c c' : Cx} {R : Ending -> World -> Prop} {σ : TS} {a : Act} {p : Nat} (hgb : gb <= w.heap.size) : ∀ {l : List Nat} {w' : World}, l.Nodup -> (∀ D, D ∈ l -> w.heap.size <= D /\ w'.heap[D]? = some (.deferred (some [])) /\ some D ∉ c'.m) ->
  RelT w' c' σ a -> ExtP p w c w' c' -> (∀ w2, RelT w2 c' σ a -> ExtP p w c w2 c' -> ∃ v, (results func a.tmps).run P w2 = .ok v w2 /\ R (.returned v) w2) ->
  LeavesInM (Wd none) 0 P func a.tmps R (l.map zdo ++ []) .returning w'
 | [], w', _, _, hr, x, h => h w' hr x
 | D :: l, w', hn, hl, hr, x, h => by
  obtain ⟨g1, g2, g3⟩ := hl D (by simp)
  refine ⟨by simp, .inl ⟨D, _, rfl, run_takeDeferred g2, y4q hgb (List.nodup_cons.1 hn).2 (fun E hE => ?_) (hr.noncell _ g2 g3 (Nat.le_trans hgb g1)) (y6e x g1) h⟩⟩
  obtain ⟨k1, k2, k3⟩ := hl E (by simp [hE])
  exact ⟨k1, (World.putObj_heap_other (fun e : E = D => (List.nodup_cons.1 hn).1 (by rw [<- e]; exact hE))).trans k2, k3⟩
def ybb (fn : Func) (S : Sig) (x : LT S.codes) : TS := ⟨kA (S.args x) + (fn.ntmps - kA (S.args x)), zc7 (S.args x) 0, S.heap x, S.pn⟩
noncomputable def fnK (P : Program) (V : Env) (fn : Func) (h : HT) (S : Sig) (x : LT S.codes) : Option S.X.T :=
 match fn.body with
 | some c => zO P V c h (ybb fn S x) fun e σ => match e with
  | .normal | .ret => yei P fn σ fun t => S.X.close .ret ⟨1, [(0, t)], σ.H, σ.p⟩ some
  | _ => none
 | none => none
def ywm (P : Program) (fn : Func) (h : HT) : Prop := HOK P (zw fn) h
theorem yts {σ : TS} (hw : σ.wf) : (za9 σ).wf := by
 unfold za9;cases h : xh σ.slots 0 with
 | none => exact zml
 | some t =>
  obtain ⟨z, h1, h2⟩ := zic h;rw [<- h2];exact hw.slots z h1
theorem zx {P : Program} {V : Env} (hV : EnvsOK P V) {S : Sig} {func : Func} {h : HT} {fn : LT S.codes -> Option S.X.T} (hfun : P.funcs[S.f]? = some func) (hh : ywm P func h) (hc : z4i P S.f = true) (hX : S.X.OK)
  (hfn : ∀ x, fnK P V func h S x = fn x) : FnOK P S fn := by
 have body : ∀ x y, fn x = some y -> ∃ c, func.body = some c /\ HOK P c h /\ (zO P V c h (ybb func S x) fun e σ => match e with
  | .normal | .ret => yei P func σ fun t => S.X.close .ret ⟨1, [(0, t)], σ.H, σ.p⟩ some
  | _ => none) = some y := by
  intro x y hy;rw [<- hfn x] at hy;unfold fnK at hy;split at hy
  ·rename_i c hb;have : HOK P c h := by have := hh; unfold ywm zw at this; rw [hb] at this; exact this
   exact ⟨c, hb, this, hy⟩
  ·cases hy
 have init : ∀ x, (∀ t, t ∈ S.args x -> t.wf) -> (∀ o, o ∈ S.heap x -> o.wf) -> (ybb func S x).wf := fun x ha ho => ⟨fun z hz => ha _ (ziw hz), ho⟩
 have post : ∀ y e σ', σ'.wf -> (match e, σ' with | Exit.normal, σ' | Exit.ret, σ' => yei P func σ' fun t => S.X.close .ret ⟨1, [(0, t)], σ'.H, σ'.p⟩ some | _, _ => none) = some y ->
   (e = .normal \/ e = .ret) /\ ∃ q, q.wf /\ ymw P func σ'.flat q.pv /\ Wk ⟨1, [(0, q)], σ'.H, σ'.p⟩ (S.X.at' y).2 := by
  intro y e σ' hwσ he;have : (e = .normal \/ e = .ret) /\ (yei P func σ' fun t => S.X.close .ret ⟨1, [(0, t)], σ'.H, σ'.p⟩ some) = some y := by
   cases e <;> first | (cases he; done) | exact ⟨.inl rfl, he⟩ | exact ⟨.inr rfl, he⟩
  obtain ⟨h5, h6⟩ := this;obtain ⟨q, q1, q2, q3⟩ := ytu hwσ h6;obtain ⟨y', p1, _, p2⟩ := hX.close _ _ ⟨1, [(0, q)], σ'.H, σ'.p⟩ some y ⟨fun z hz => by rcases List.mem_singleton.1 hz with rfl; exact q2, hwσ.H⟩ q1
  cases p1;exact ⟨h5, q, q2, q3, p2⟩
 refine ⟨hc, fun x y hy ha ho => ?_, fun x y hy ha ho => ?_, fun R y k => hX.open' R y k⟩
 ·obtain ⟨c, hb, hok, hev⟩ := body x y hy;obtain ⟨e, σ', hw', he⟩ := zse hV c h hok (init x ha ho) hev;obtain ⟨_, q, _, _, hk⟩ := post y e σ' hw' (by revert he; cases e <;> exact id)
  exact ⟨yts hk.1, hk.1.H⟩
 ·obtain ⟨c, hb, hok, hev⟩ := body x y hy;have ht := zn9 hV c h hok hev;intro w cx vs g hpn hsz hv;rw [kF] at hsz;refine (callsIn_wide (n := 0)).1 (callsIn_of_wp_marks (F := Wd none) hfun hb trivial (ht cx _ w _ ⟨hpn, g, ?_⟩ (init x ha ho) ?_ none trivial))
  ·refine ⟨by simp [hsz, TS.flat, ybb], fun t p hl hlt => ?_⟩
   simp only [TS.flat, ybb, zol] at hl;obtain ⟨_, h2⟩ := zpb _ 0 t p hl;simp only [Nat.sub_zero] at h2;obtain ⟨v, h3, h4⟩ := zQ hv h2;have hlt' : t < vs.size := by rw [hsz]; have := (kG.1 h2).1; simpa using this
   exact ⟨v, by rw [Array.getElem?_append_left hlt']; exact h3, h4⟩
  ·intro e c' a' w' σ' hQ hw' hr' hx hd;obtain ⟨he, q, hq, hres, hk⟩ := post y e σ' hw' (by revert hQ; cases e <;> exact id)
   obtain ⟨l, hl1, hl2, hl3⟩ := hd;have fin : LeavesInM (Wd none) 0 P func a'.tmps (fun e w'' => ∃ v p H' c', e = .returned v /\ (p = (za9 (S.X.at' y).2).pv /\ H' = (S.X.at' y).2.H.map TOb.flat) /\ Ab.Good w'' c' H' [] /\ VR w'' c' p v /\ ExtP S.pn w cx w'' c') a'.defers .returning w' := by
    rw [hl1];refine y4q (p := σ'.p) (c := cx) g.gl.sz hl2 hl3 hr' ?_ fun w2 hr2 hx2 => ?_
    ·have e2 : σ'.p = S.pn := by rw [<- hr'.1, hx.pn, hpn]
     rw [e2]; exact hx
    obtain ⟨v, h1, h2⟩ := hres w2 c' a' hr2.2.1 hr2.2.2;have hr1 : RelT w2 c' ⟨1, [(0, q)], σ'.H, σ'.p⟩ { a' with tmps := #[v] } := by
     refine ⟨hr2.1, hr2.2.1, rfl, fun t p hl hlt => ?_⟩
     have : t = 0 := by
      have : t < 1 := hlt;omega
     subst this;simp only [TS.flat, List.map_cons, List.map_nil, Ab.look, ki, cond_true, Option.some.injEq] at hl;subst hl;exact ⟨v, rfl, h2⟩
    obtain ⟨c2, hr3, hx3⟩ := hk.2 w2 c' _ hr1;have hxp : ExtP S.pn w cx w2 c2 := by
     have e2 : σ'.p = S.pn := by rw [<- hr'.1, hx.pn, hpn]
     have := hx3 w cx hx2;rw [show TS.p ⟨1, [(0, q)], σ'.H, σ'.p⟩ = S.pn from e2] at this
     exact this
    have hv2 : VR w2 c2 (za9 (S.X.at' y).2).pv v := by
     unfold za9;cases hl : xh (S.X.at' y).2.slots 0 with
     | none => simp only [Option.getD_none, TV.pv, VR]
     | some t =>
      have hsz2 := hr3.2.2.1;have hl2 : Ab.look (S.X.at' y).2.flat.slots 0 = some t.pv := by
       simp only [TS.flat, z84, hl, kI]
      obtain ⟨v', g1, g2⟩ := hr3.2.2.2 0 _ hl2 (by rw [<- hsz2]; exact Nat.one_pos)
      simp only [List.getElem?_toArray, List.getElem?_cons_zero, Option.some.injEq] at g1;subst g1;exact g2
    exact ⟨v, h1, v, _, _, c2, rfl, ⟨rfl, rfl⟩, hr3.2.1, hv2, hxp⟩
   rcases he with rfl | rfl
   ·exact fin
   ·exact fin
end Go.Tm
namespace Go.Ab
theorem yhp {w w' : World} {c c' : Cx} {H H' : List AObj} (g : Good w c H []) {pn : Nat} {ρ : List Nat} (hh : Hand c H.length pn ρ) (g' : Good w' c' H' []) (x : ExtP pn w (yZ w c pn ρ) w' c') : ExtP c.pn w c w' (yh c c' H.length pn ρ) := by
 have ids : ∀ j k : Nat, c'.m[j]? = some (some k) -> (∃ i b : Nat, ρ[i]? = some b /\ c.m[b]? = some (some k)) \/ w.heap.size <= k := fun j k h => by
  rcases x.new k (kH.2 ⟨j, h⟩) with h | h
  ·exact .inl (z6y h)
  ·exact .inr h
 have hm3 : ∀ k : Nat, some k ∈ (yh c c' H.length pn ρ).m -> some k ∈ c.m \/ w.heap.size <= k := fun k hk => by
  obtain ⟨b, hb⟩ := kH.1 hk;have key : ∀ j : Nat, c'.m[j]? = some (some k) -> some k ∈ c.m \/ w.heap.size <= k := fun j h => by
   rcases ids j k h with ⟨i, b', _, h2⟩ | h
   ·exact .inl (kH.2 ⟨b', h2⟩)
   ·exact .inr h
  rcases zgz hb with ⟨_, j, _, _, h⟩ | ⟨_, _, h⟩ | ⟨_, h⟩
  ·exact key j h
  ·exact .inl (kH.2 ⟨b, h⟩)
  ·exact key _ h
 refine ⟨x.os, x.tape, x.output, x.size, hm3, fun k hk hm => x.blocks k hk fun h => ?_, rfl, rfl, fun b k hb hk => ?_, x.room⟩
 ·obtain ⟨j, b, _, h2⟩ := z6y h;exact hm (kH.2 ⟨b, h2⟩)
 ·have hbl : b < H.length := by rw [<- g.len]; exact (kG.1 hk).1
  rw [z7k hbl];cases hp : z1n ρ b with
  | some j =>
   have hj := z29 hp
   by_cases hlt : j < pn
   ·simp only [if_pos hlt, x.pin j k hlt (z6x hj hk), kj]
   ·have := hh.own j b (by omega) hj; omega
  | none => simp only [hk, kj]
end Go.Ab
set_option linter.unusedSimpArgs false
set_option linter.unusedVariables false
namespace Go.Tm
open Go.Ab
def z3u : List Nat -> Nat -> Nat -> Option Nat
 | [], _, _ => none
 | b' :: r, b, j => bif kM b' b then some j else z3u r b (j + 1)
theorem zvj : ∀ (ρ : List Nat) (b j : Nat), z3u ρ b j = (z3u ρ b 0).map (· + j)
 | [], _, _ => rfl
 | b' :: r, b, j => by
  simp only [z3u];cases kM b' b with
  | true => simp
  | false =>
   simp only [cond_false];rw [zvj r b (j + 1), zvj r b (0 + 1), Option.map_map];congr 1;funext x;simp only [Function.comp]; omega
theorem zie {ρ : List Nat} {b j : Nat} (h : z3u ρ b 0 = some j) : ρ[j]? = some b := by
 induction ρ generalizing j with
 | nil => cases h
 | cons b' r ih =>
  simp only [z3u] at h;cases hb : kM b' b with
  | true =>
   rw [hb] at h;cases h;rw [kJ hb]; rfl
  | false =>
   rw [hb] at h;simp only [cond_false] at h;rw [zvj] at h;cases hp : z3u r b 0 with
   | none => rw [hp] at h; cases h
   | some i =>
    rw [hp] at h;simp at h;subst h;simpa using ih hp
theorem y52 {ρ : List Nat} {b : Nat} (h : z3u ρ b 0 = none) : ∀ j : Nat, ρ[j]? ≠ some b := by
 induction ρ with
 | nil => intro j hj; simp at hj
 | cons b' r ih =>
  simp only [z3u] at h;cases hb : kM b' b with
  | true => rw [hb] at h; cases h
  | false =>
   rw [hb] at h;simp only [cond_false] at h;rw [zvj] at h;intro j hj;cases j with
   | zero =>
    simp at hj;subst hj;rw [ki] at hb; cases hb
   | succ j =>
    refine ih ?_ j (by simpa using hj)
    cases hp : z3u r b 0 with
    | none => rfl
    | some i => rw [hp] at h; cases h
def zv1 : List Nat -> Bool
 | [] => true
 | b :: r => !zdq r b && zv1 r
theorem zxu : ∀ {ρ : List Nat}, zv1 ρ = true -> ∀ i j b : Nat, ρ[i]? = some b -> ρ[j]? = some b -> i = j
 | [], _, i, j, b, h, _ => by simp at h
 | b' :: r, h, i, j, b, hi, hj => by
  simp only [zv1, kD, Bool.not_eq_true'] at h;have hno : b' ∉ r := fun hm => by rw [y9n.2 hm] at h; cases h.1
  cases i with
  | zero =>
   simp at hi; subst hi;cases j with
   | zero => rfl
   | succ j => exact absurd (kC (by simpa using hj)) hno
  | succ i =>
   cases j with
   | zero =>
    simp at hj; subst hj;exact absurd (kC (by simpa using hi)) hno
   | succ j => rw [zxu h.2 i j b (by simpa using hi) (by simpa using hj)]
def geL (p : Nat) : List Nat -> Bool
 | [] => true
 | b :: L => kq p b && geL p L
theorem yil {p : Nat} : ∀ {L : List Nat}, geL p L = true -> ∀ b, b ∈ L -> p <= b
 | [], _, b, hb => by cases hb
 | a :: L, h, b, hb => by
  simp only [geL, kD] at h;rcases kS.1 hb with rfl | hb
  ·exact k9 h.1
  ·exact yil h.2 b hb
def znb (n p pn : Nat) (ρ : List Nat) : Bool := zxk n ρ && zv1 ρ && geL p (ρ.drop pn) && kq pn (kA ρ)
variable {c : Cx}
theorem y4f {n p pn : Nat} {ρ : List Nat} (h : znb n p pn ρ = true) (hp : c.pn = p) : Hand c n pn ρ := by
 simp only [znb, kD] at h;obtain ⟨⟨⟨h1, h2⟩, h3⟩, h4⟩ := h;refine ⟨fun j b hj => zmo h1 b (kC hj), zxu h2, fun j b hj hb => ?_, k9 h4⟩
 rw [hp];refine yil h3 b (kC (i := j - pn) ?_);rw [List.getElem?_drop, show pn + (j - pn) = j by omega]; exact hb
def z3c (ρ : List Nat) (b : Nat) : Fate :=
 match z3u ρ b 0 with
 | some j => .to j
 | none => .gone
theorem zlp (ρ : List Nat) (b : Nat) (o : Ob) : z3c ρ b ≠ .fz o := by
 unfold z3c;cases z3u ρ b 0 <;> simp
theorem yno {ρ : List Nat} {b j : Nat} (h : (z3c ρ b).name = some j) : ρ[j]? = some b := by
 unfold z3c at h;cases hp : z3u ρ b 0 with
 | none => rw [hp] at h; cases h
 | some i =>
  rw [hp] at h;simp only [Fate.name, Option.some.injEq] at h;subst h;exact zie hp
theorem y9c {w : World} {H : List AObj} (g : Ab.Good w c H []) (pn : Nat) (ρ : List Nat) : MvH (z3c ρ) w c w (yZ w c pn ρ) :=
 ⟨yvc g fun b j h => yno h, fun b o h => absurd h (zlp ρ b o), fun b o k h => absurd h (zlp ρ b o)⟩
theorem yq3 {w : World} {H : List TOb} (hw : ∀ o, o ∈ H -> o.wf) (g : Ab.Good w c (H.map TOb.flat) []) {pn : Nat} {ρ : List Nat} (hh : Hand c (H.map TOb.flat).length pn ρ) {hs : List HPat} (hl : hs.length = ρ.length) :
  Ab.Good w (yZ w c pn ρ) ((z0x (z3c ρ) H hs (ρ.map some)).map TOb.flat) [] := by
 have M := y9c g pn ρ;refine yf7 g hh (by rw [kF, zt1 (by simpa using hl), kF]) fun j b o hj ho => ?_
 simp only [kB] at ho;cases hq : (z0x (z3c ρ) H hs (ρ.map some))[j]? with
 | none => rw [hq] at ho; cases ho
 | some q =>
  rw [hq] at ho;simp only [kI, Option.some.injEq] at ho;subst ho;have hlt := hh.lt j b hj;rw [kF] at hlt;rcases zhc hq with ⟨h1, _⟩ | ⟨b', h1, h2⟩
  ·rw [kB, hj] at h1; cases h1
  ·rw [kB, hj] at h1;cases h1;rcases h2 with ⟨e, t, h2, rfl⟩ | ⟨e, u, l, h2, rfl⟩ | ⟨h2, rfl⟩
   ·have hwt := hw _ (kC h2);have m := z4f M t hwt.1;exact .inr ⟨t.cells, e, _, by rw [kB, h2]; rfl, rfl, m.len, m.leafs (qy hwt.1 hwt.2), fun fv hf => m.cells fv hf⟩
   ·have hwt := hw _ (kC h2);exact .inr ⟨zI u l, e, _, by rw [kB, h2]; rfl, rfl, rfl, xL hwt, fun fv hf => VRs.transfer (fun a n h => M.base.foot a n h) _ (jL hwt) hf⟩
   ·rcases h2 with h2 | h2
    ·have := List.getElem?_eq_none_iff.1 h2; omega
    ·exact .inl ⟨by rw [kB, h2]; rfl, rfl⟩
def zgq (n pn : Nat) (ρ : List Nat) (j : Nat) : Fate := .to (bif kN j pn then y9b ρ j else n + (j - pn))
def y0m (pn : Nat) (ρ : List Nat) (b : Nat) : Fate :=
 match z3u ρ b 0 with
 | some j => bif kN j pn then .to b else .gone
 | none => .to b
def znu (n pn : Nat) (ρ : List Nat) (H' : List TOb) : List TOb -> Nat -> List TOb
 | [], _ => []
 | o :: r, b => (match z3u ρ b 0 with
  | some j => bif kN j pn then (match H'[j]? with
   | some o' => o'.mv (zgq n pn ρ)
   | none => .gone) else .gone
  | none => o.mv (y0m pn ρ)) :: znu n pn ρ H' r (b + 1)
def zuv (pn : Nat) (ρ : List Nat) (H H' : List TOb) : List TOb := znu (kA H) pn ρ H' H 0 ++ (H'.drop pn).map (TOb.mv (zgq (kA H) pn ρ))
def yh5 (σ : TS) (pn : Nat) (ρ : List Nat) (H' : List TOb) : TS := ⟨σ.n, zm2 (y0m pn ρ) σ.slots, zuv pn ρ σ.H H', σ.p⟩
theorem y0n (n pn : Nat) (ρ : List Nat) (H' : List TOb) : ∀ (H : List TOb) (b0 i : Nat), (znu n pn ρ H' H b0)[i]? = (H[i]?).map fun o => match z3u ρ (b0 + i) 0 with
  | some j => bif kN j pn then (match H'[j]? with
   | some o' => o'.mv (zgq n pn ρ)
   | none => .gone) else .gone
  | none => o.mv (y0m pn ρ)
 | [], _, i => by simp [znu]
 | o :: r, b0, 0 => by simp [znu]
 | o :: r, b0, i + 1 => by
  simp only [znu, List.getElem?_cons_succ];rw [y0n n pn ρ H' r (b0 + 1) i, show b0 + 1 + i = b0 + (i + 1) by omega]
theorem zjo (n pn : Nat) (ρ : List Nat) (H' : List TOb) : ∀ (H : List TOb) (b0 : Nat), (znu n pn ρ H' H b0).length = H.length
 | [], _ => rfl
 | o :: r, b0 => by simp only [znu, kR, zjo n pn ρ H' r]
theorem zrz (n pn : Nat) (ρ : List Nat) (b : Nat) (o : Ob) : zgq n pn ρ b ≠ .fz o := by simp [zgq]
theorem y6o (pn : Nat) (ρ : List Nat) (b : Nat) (o : Ob) : y0m pn ρ b ≠ .fz o := by
 unfold y0m;cases z3u ρ b 0 with
 | none => simp
 | some j => cases hb : kN j pn <;> simp [hb]
theorem zwc {g : Nat -> Fate} (hg : ∀ b o, g b = .fz o -> o.wf) {o : TOb} (h : o.wf) : (o.mv g).wf := by
 cases o with
 | gone => trivial
 | ob e o =>
  cases o with
  | row u l => exact h
  | var t => exact ⟨(zjl hg t h.1).1, (zjl hg t h.1).2 h.2⟩
theorem yd1 {g : Nat -> Fate} {w w' : World} {c c' : Cx} (M : MvH g w c w' c') {o : TOb} (h : o.wf) :
  (o.flat = .gone /\ (o.mv g).flat = .gone) \/ ∃ cs e cs2, o.flat = .row cs e /\ (o.mv g).flat = .row cs2 e /\ cs2.length = cs.length /\ zu cs2 /\ ∀ fv, VRs w c cs fv -> VRs w' c' cs2 fv := by
 cases o with
 | gone => exact .inl ⟨rfl, rfl⟩
 | ob e o =>
  cases o with
  | row u l => exact .inr ⟨zI u l, e, zI u l, rfl, rfl, rfl, xL h, fun fv hf => by
   have := VRs.move M.base _ (g' := fv) (fun _ _ _ h => h) hf
   rw [vp (jL h)] at this;exact this⟩
  | var t =>
   have m := z4f M t h.1;exact .inr ⟨t.cells, e, (t.mv g).cells, rfl, rfl, m.len, m.leafs (qy h.1 h.2), fun fv hf => m.cells fv hf⟩
theorem yn0 (n pn : Nat) (ρ : List Nat) : (fun j => (zgq n pn ρ j).name) = fun j => some (zs0 n pn ρ j) := by
 funext j;simp only [zgq, Fate.name, zs0, Option.some.injEq]
 by_cases h : j < pn
 ·rw [kU.mpr h, if_pos h]; simp only [cond_true, ydi, List.getD_eq_getElem?_getD]
 ·have : kN j pn = false := by
   cases hb : kN j pn with
   | false => rfl
   | true => exact absurd (kU.mp hb) h
  rw [this, if_neg h]; rfl
theorem yvt {ρ : List Nat} (hinj : ∀ i j b : Nat, ρ[i]? = some b -> ρ[j]? = some b -> i = j) (b : Nat) : z3u ρ b 0 = z1n ρ b := by
 cases h : z3u ρ b 0 with
 | none =>
  cases h2 : z1n ρ b with
  | none => rfl
  | some j => exact absurd (z29 h2) (y52 h j)
 | some i =>
  cases h2 : z1n ρ b with
  | none => exact absurd (zie h) (zr6 h2 i)
  | some j => rw [hinj i j b (zie h) (z29 h2)]
theorem yqi {pn : Nat} {ρ : List Nat} (hinj : ∀ i j b : Nat, ρ[i]? = some b -> ρ[j]? = some b -> i = j) : (fun b => (y0m pn ρ b).name) = zyl pn ρ := by
 funext b;simp only [y0m, zyl, yvt hinj];cases z1n ρ b with
 | none => rfl
 | some j =>
  simp only
  by_cases h : j < pn
  ·rw [kU.mpr h, if_pos h]; rfl
  ·have : kN j pn = false := by
    cases hb : kN j pn with
    | false => rfl
    | true => exact absurd (kU.mp hb) h
   rw [this, if_neg h]; rfl
theorem ys9 {σ : TS} (hw : σ.wf) (pn : Nat) (ρ : List Nat) {H' : List TOb} (hH : ∀ o, o ∈ H' -> o.wf) : (yh5 σ pn ρ H').wf := by
 refine ⟨ybo (fun b o h => absurd h (y6o pn ρ b o)) hw.slots, fun o ho => ?_⟩
 simp only [yh5, zuv] at ho;rcases kT.1 ho with ho | ho
 ·obtain ⟨i, hi⟩ := kH.1 ho;rw [y0n] at hi;cases hq : σ.H[i]? with
  | none => rw [hq] at hi; cases hi
  | some q =>
   rw [hq] at hi;simp only [kI, Option.some.injEq] at hi;subst hi;split
   ·rename_i j _;cases kN j pn with
    | false => trivial
    | true =>
     simp only [cond_true];split
     ·rename_i o' ho';exact zwc (fun b o h => absurd h (zrz _ _ _ b o)) (hH _ (kC ho'))
     ·trivial
   ·exact zwc (fun b o h => absurd h (y6o _ _ b o)) (hw.H _ (kC hq))
 ·simp only [kh] at ho;obtain ⟨o', ho', rfl⟩ := ho;exact zwc (fun b o h => absurd h (zrz _ _ _ b o)) (hH _ (List.mem_of_mem_drop ho'))
theorem ysa {w w' : World} {c c' : Cx} {σ : TS} {a : Act} (hr : RelT w c σ a) (hw : σ.wf) {pn : Nat} {ρ : List Nat} (hk : znb (kA σ.H) σ.p pn ρ = true) {H' : List TOb} (hH : ∀ o, o ∈ H' -> o.wf) (g' : Ab.Good w' c' (H'.map TOb.flat) [])
  (x : ExtP pn w (yZ w c pn ρ) w' c') (hpn : pn <= H'.length) : ∃ c3, RelT w' c3 (yh5 σ pn ρ H') a /\ ExtP σ.p w c w' c3 /\ ∀ (t : TV) v, t.wf -> VR w' c' t.pv v -> VR w' c3 (t.mv (zgq (kA σ.H) pn ρ)).pv v := by
 have g := hr.good;have hlen : (σ.H.map TOb.flat).length = σ.H.length := by simp
 have hh : Hand c (σ.H.map TOb.flat).length pn ρ := by rw [hlen]; exact y4f hk hr.1
 have xx := yhp g hh g' x;have hpn' : pn <= (H'.map TOb.flat).length := by simpa using hpn
 have M1 : MvH (y0m pn ρ) w c w' (yh c c' (σ.H.map TOb.flat).length pn ρ) :=
  ⟨by rw [yqi hh.inj]; exact ykq g hh g' x hpn' xx, fun b o h => absurd h (y6o _ _ b o), fun b o k h => absurd h (y6o _ _ b o)⟩
 have M2 : MvH (zgq σ.H.length pn ρ) w' c' w' (yh c c' (σ.H.map TOb.flat).length pn ρ) :=
  ⟨by rw [yn0, <- hlen]; exact y7s g hh g' x hpn', fun b o h => absurd h (zrz _ _ _ b o), fun b o k h => absurd h (zrz _ _ _ b o)⟩
 have getOld : ∀ b : Nat, b < σ.H.length -> (zuv pn ρ σ.H H')[b]? = (σ.H[b]?).map fun o => match z3u ρ b 0 with
   | some j => bif kN j pn then (match H'[j]? with
    | some o' => o'.mv (zgq σ.H.length pn ρ)
    | none => .gone) else .gone
   | none => o.mv (y0m pn ρ) := fun b hb => by
  simp only [zuv];rw [kL (by rw [zjo]; exact hb), y0n, Nat.zero_add]
 have getNew : ∀ j : Nat, pn <= j -> (zuv pn ρ σ.H H')[σ.H.length + (j - pn)]? = (H'[j]?).map (TOb.mv (zgq σ.H.length pn ρ)) := fun j hj => by
  simp only [zuv];rw [kK (by rw [zjo]; omega), zjo, kB, List.getElem?_drop, show pn + (σ.H.length + (j - pn) - σ.H.length) = j by omega]
 have hG := (ypi g hh g' x hpn' (H3 := (zuv pn ρ σ.H H').map TOb.flat) (by simp [zuv, zjo]) (fun j b hj hb => ?_) (fun j b hj hb => ?_) (fun b hb hno => ?_) (fun j hj hl => ?_)).1
 ·exact ⟨yh c c' (σ.H.map TOb.flat).length pn ρ, ⟨hr.1, hG, yk2 hw M1 hr.2.2 _ _⟩, by rw [<- hr.1]; exact xx, fun t v ht hv => (z4f M2 t ht).pv v hv⟩
 ·have hbl : b < σ.H.length := by rw [<- hlen]; exact hh.lt j b hb
  have hjl : j < H'.length := by omega
  have hp : z3u ρ b 0 = some j := by
   cases hp : z3u ρ b 0 with
   | none => exact absurd hb (y52 hp j)
   | some i => rw [hh.inj i j b (zie hp) hb]
  have := getOld b hbl;rw [kE hbl, kI, hp] at this;simp only [kU.mpr hj, cond_true, kE hjl] at this;refine ⟨_, _, by rw [kB, kE hjl]; rfl, by rw [kB, this]; rfl, ?_⟩
  exact yd1 M2 (hH _ (kY hjl))
 ·have hbl : b < σ.H.length := by rw [<- hlen]; exact hh.lt j b hb
  have hp : z3u ρ b 0 = some j := by
   cases hp : z3u ρ b 0 with
   | none => exact absurd hb (y52 hp j)
   | some i => rw [hh.inj i j b (zie hp) hb]
  have hnb : kN j pn = false := by
   cases hb : kN j pn with
   | false => rfl
   | true => exact absurd (kU.mp hb) (by omega)
  have := getOld b hbl;rw [kE hbl, kI, hp] at this;simp only [hnb, cond_false] at this;rw [kB, this]; rfl
 ·rw [hlen] at hb;have hp : z3u ρ b 0 = none := by
   cases hp : z3u ρ b 0 with
   | none => rfl
   | some i => exact absurd (zie hp) (hno i)
  have := getOld b hb;rw [kE hb, kI, hp] at this;simp only at this;rcases yd1 M1 (hw.H _ (kY hb)) with ⟨h1, h2⟩ | ⟨cs, e, cs2, h1, h2, h3, h4, h5⟩
  ·exact .inl ⟨by rw [kB, kE hb]; exact congrArg some h1, by rw [kB, this]; exact congrArg some h2⟩
  ·exact .inr ⟨cs, e, cs2, by rw [kB, kE hb]; exact congrArg some h1, by rw [kB, this]; exact congrArg some h2, h3, h4, h5⟩
 ·have hl' : j < H'.length := by simpa using hl
  have := getNew j hj;rw [kE hl', kI] at this;refine ⟨_, _, by rw [kB, kE hl']; rfl, by rw [hlen, kB, this]; rfl, ?_⟩
  exact yd1 M2 (hH _ (kY hl'))
variable {R : Type} {S : Sig}
theorem yac {args : List TV} {Hc : List TOb} {la lb : List TV} {k : LT S.codes -> Option R} {r : R} (hwa : TV.wfs args) (hwH : ∀ o, o ∈ Hc -> o.wf) (ha : xH S.A args = some la) (hb : z0v S.hp Hc = some lb)
  (h : (z5z S.codes (la ++ lb) fun x => zeb (S.lens (yR S.codes x)) (z49 S.A args ++ zcp S.hp Hc) (k x)) = some r) :
  ∃ x, k x = some r /\ FitsL args (S.args x) /\ (∀ o, o ∈ S.heap x -> o.wf) /\ (S.heap x).length = Hc.length /\ ∀ (i : Nat) o o', Hc[i]? = some o -> (S.heap x)[i]? = some o' -> zzk o o' := by
 have la_len := z83 _ _ ha;have hlw : ∀ t, t ∈ la ++ lb -> t.wf := fun t ht => by
  rcases kT.1 ht with ht | ht
  ·exact z76 _ _ hwa ha t ht
  ·exact zwz _ _ hwH hb t ht
 obtain ⟨x, h1, h2, h3, h4⟩ := zra S.codes _ hlw h;obtain ⟨h1, hg⟩ := zmt h1;obtain ⟨hg1, hg2⟩ := hg.split;refine ⟨x, h1, ?_⟩;unfold Sig.args Sig.heap;generalize hvs : yR S.codes x = vs at h3 h4 hg1 hg2;have sld : SldL (la ++ lb) vs := ⟨h3.symm, h4⟩;obtain ⟨s1, s2⟩ := sld.split;have hnS : (zc S.A).length = la.length := la_len.symm;obtain ⟨ts', f1, f2⟩ := z9y (lens := S.lens vs) S.A args (vs.drop la.length) hwa ha s1 hg1;rw [List.take_append_drop] at f1;obtain ⟨f3, f4⟩ := zwo (lens := S.lens vs) (ss := vs.drop la.length) [] hwH hb s2 hg2;rw [ka] at f3 f4;rw [f1, hnS];refine ⟨f2, fun o ho => ?_, f3, f4⟩
 obtain ⟨i, hi⟩ := kH.1 ho;have hlt : i < Hc.length := by rw [<- f3]; exact (kG.1 hi).1
 have := f4 i _ o (kE hlt) hi;generalize Hc[i] = o0 at this;cases o <;> cases o0 <;> first | exact this.elim | trivial | exact this.2.1
theorem yii {w : World} {Hc H' : List TOb} (g : Ab.Good w c (Hc.map TOb.flat) []) (h3 : H'.length = Hc.length) (h4 : ∀ (i : Nat) o o', Hc[i]? = some o -> H'[i]? = some o' -> zzk o o') : Ab.Good w c (H'.map TOb.flat) [] := by
 refine Good.le g (by simp [h3]) fun i o1 o2 e1 e2 => ?_
 simp only [kB] at e1 e2;cases e3 : Hc[i]? with
 | none => rw [e3] at e1; cases e1
 | some q =>
  cases e4 : H'[i]? with
  | none => rw [e4] at e2; cases e2
  | some q' =>
   rw [e3] at e1; rw [e4] at e2;simp at e1 e2;subst e1; subst e2;exact y7q (h4 i q q' e3 e4)
def zn3 (H : List TOb) (args : List TV) : List TV := bif z3v args then args else mvs (zkb 6 H) args
def yuo : List TOb -> Bool
 | [] => true
 | _ => false
def zD (S : Sig) (fn : LT S.codes -> Option S.X.T) : Ent where
 f := S.f
 ok := fun H args => y46 S.A (zn3 H args)
 run := fun H args k => match xH S.A (zn3 H args), z0v S.hp [] with
  | some a, some b => bif kM S.pn 0 then z5z S.codes (a ++ b) fun x => zeb (S.lens (yR S.codes x)) (z49 S.A (zn3 H args) ++ zcp S.hp [])
    ((fn x).bind fun y => S.X.open' y fun _ τ => bif yuo τ.H && ((za9 τ).flatB || (z3v args && (za9 τ).pureB)) then k (za9 τ) else none) else none
  | _, _ => none
theorem yph {w w' : World} {c c' : Cx} {H : List AObj} (g : Ab.Good w c H []) (x : ExtP 0 w (vU w c 0) w' c') (a : Addr) (n : Nat) (h : Foot w' c' a n) : Foot w' c a n := by
 rcases h with h | ⟨h1, h2, h3, h4, h5⟩
 ·exact .inl h
 ·rw [x.ok] at h5
  by_cases hlt : a.block < w.heap.size
  ·obtain ⟨h6, h7, h8⟩ := h5 hlt;exact .inr ⟨h1, h2, h6, h7, h8⟩
  ·exact .inr ⟨h1, h2, fun h => hlt (g.mlt h), fun i j h => absurd (g.tlt h) hlt, g.okn _ _ (Nat.le_of_not_lt hlt)⟩
theorem yfe {w w' : World} {c c0 c' : Cx} {H : List AObj} (g : Ab.Good w c H []) (hm : c0.m = []) (x : ExtP 0 w c0 w' c') : Ab.Good w' c H [] /\ Ext w c w' c :=
 y0t g x.os x.tape x.output x.size (fun b hb => x.blocks b hb (by rw [hm]; simp))
variable {P : Program}
theorem zh {fn : LT S.codes -> Option S.X.T} (h : FnOK P S fn) : ymv P (zD S fn) := by
 intro R H args k r hH hwa hr;simp only [zD] at hr ⊢;split at hr
 ·rename_i la lb hla hlb;cases hpn : kM S.pn 0 with
  | false => rw [hpn] at hr; cases hr
  | true =>
   rw [hpn] at hr;simp only [cond_true] at hr;have hp0 := kJ hpn;have hwa' := xI.2 hwa;have hwv : TV.wfs (zn3 H args) := by
    unfold zn3;cases z3v args with
    | true => exact hwa'
    | false => exact (zid (y6y hH 6) args hwa').1
   obtain ⟨x, h1, h2, h3, h4, h5⟩ := yac hwv (by intro o ho; cases ho) hla hlb hr
   have hheap : S.heap x = [] := kQ h4;rw [kV] at h1;obtain ⟨y, hy, hk⟩ := h1;rw [h.open'] at hk;have hwx := xI.1 h2.wf;obtain ⟨r1, r2⟩ := h.ret x y hy hwx h3;cases hc : yuo (S.X.at' y).2.H && ((za9 (S.X.at' y).2).flatB || (z3v args && (za9 (S.X.at' y).2).pureB)) with
   | false => rw [hc] at hk; cases hk
   | true =>
    rw [hc] at hk;simp only [cond_true] at hk;simp only [kD, Bool.or_eq_true] at hc;obtain ⟨hn, hres⟩ := hc;refine ⟨_, hk, r1, .inr ⟨h.can, fun Y w c vs hY g hsz hv => ?_⟩⟩
    have hcall := h.calls x y hy hwx h3;rw [hheap, hp0] at hcall;have hlen : vs.size = (((S.args x).map TV.pv)).length := by
     rw [kF, h2.len, hsz];unfold zn3;cases z3v args with
     | true => rfl
     | false => simp [zyj]
    cases hpu : z3v args with
    | true =>
     have hva : zn3 H args = args := by unfold zn3; rw [hpu]; rfl
     have hp1 := (z86 args hwa' hpu).1;have g0 : Ab.Good w (vU w c 0) [] [] := yks g 0;have hv0 : VRs w (vU w c 0) ((S.args x).map TV.pv) (fun i => vs[i]?) := by
      have h6 := h2.pvs;rw [hva, qh, qh] at h6;rw [qh] at hp1;exact z2o ⟨_, _, g0⟩ h6 (VRs.transfer (ykr 0) _ hp1 hv)
     refine (hcall w _ vs g0 rfl hlen hv0).mono ?_;rintro e w' ⟨v, p, H', c', rfl, ⟨rfl, rfl⟩, g', hv', x'⟩;obtain ⟨g1, x1⟩ := yfe g rfl x';refine ⟨v, rfl, ?_, g1, x1⟩;rcases hres with hf | ⟨_, hf⟩
     ·exact Fl.to _ (zqo _ r1 hf).1 hv'
     ·exact VR.transfer (yph g x') _ (qr _ r1 hf).1 hv'
    | false =>
     have hva : zn3 H args = mvs (zkb 6 H) args := by unfold zn3; rw [hpu]; rfl
     have M := yms hY g hH 6;have hv0 : VRs w z79 ((S.args x).map TV.pv) (fun i => vs[i]?) := by
      have h6 := h2.pvs;rw [hva, qh (S.args x)] at h6;rw [<- qh] at hv;exact z2o ⟨_, _, yfh g⟩ h6 ((zm3 M args hwa').2.1 _ hv)
     refine (hcall w _ vs (yfh g) rfl hlen hv0).mono ?_;rintro e w' ⟨v, p, H', c', rfl, ⟨rfl, rfl⟩, g', hv', x'⟩;obtain ⟨g1, x1⟩ := yfe g rfl x';refine ⟨v, rfl, ?_, g1, x1⟩;rcases hres with hf | ⟨hf, _⟩
     ·exact Fl.to _ (zqo _ r1 hf).1 hv'
     ·rw [hpu] at hf; cases hf
 ·cases hr
def zmu : List HPat -> List (Option Nat) -> Nat -> List Nat × List HPat
 | h :: hs, some b :: ρ, n => (b :: (zmu hs ρ n).1, (zmu hs ρ n).2)
 | h :: hs, none :: ρ, n => (n :: (zmu hs ρ (n + 1)).1, h :: (zmu hs ρ (n + 1)).2)
 | _, _, _ => ([], [])
def z78 (S : Sig) (H : List TOb) (args : List TV) : List (Option Nat) := yd2 S.hp (yhs H S.hp 0 (y6c S.A args (S.hp.map fun _ => none)))
def yha (S : Sig) (H : List TOb) (args : List TV) (ρ : List (Option Nat)) : List Nat := y9a S.A args ++ yb7 H S.hp ρ
def yn6 (S : Sig) (fn : LT S.codes -> Option S.X.T) (σ1 : TS) (ρ : List Nat) (args : List TV) (k : TS -> TV -> Option R) : Option R :=
 match xH S.A (mvs (z3c ρ) args), z0v S.hp (z0x (z3c ρ) σ1.H S.hp (ρ.map some)) with
 | some a, some b => bif kM (kA S.hp) (kA ρ) && znb (kA σ1.H) σ1.p S.pn ρ then
   z5z S.codes (a ++ b) fun x => zeb (S.lens (yR S.codes x)) (z49 S.A (mvs (z3c ρ) args) ++ zcp S.hp (z0x (z3c ρ) σ1.H S.hp (ρ.map some)))
    ((fn x).bind fun y => S.X.open' y fun _ τ => bif kq S.pn (kA τ.H) then k (yh5 σ1 S.pn ρ τ.H) ((za9 τ).mv (zgq (kA σ1.H) S.pn ρ)) else none)
  else none
 | _, _ => none
def yuq (σ : TS) (fz : List Nat) (ρr : List (Option Nat)) (hs : List HPat) (args : List TV) (k : TS -> List TV -> Option R) : Option R :=
 bif z4g σ.p ρr && kM (kA hs) (kA ρr) then k (yow σ (z23 σ.p σ.H ρr fz) hs ρr) (mvs (z23 σ.p σ.H ρr fz) args) else none
def xz (S : Sig) (fn : LT S.codes -> Option S.X.T) : EEnt where
 f := S.f
 ok := fun σ args => y46 S.A args && yh9 σ.H S.hp (z78 S σ.H args)
 run := fun σ args k =>
  yuq σ (yha S σ.H args (z78 S σ.H args)) (zj9 (kA σ.H) σ.p (yha S σ.H args (z78 S σ.H args)) (z78 S σ.H args) ++ (zmu S.hp (z78 S σ.H args) (kA σ.H)).2.map fun _ => none)
   (ko (kA σ.H) .gone ++ (zmu S.hp (z78 S σ.H args) (kA σ.H)).2) args fun σ1 args1 =>
    yn6 S fn σ1 (zmu S.hp (z78 S σ.H args) (kA σ.H)).1 args1 k
theorem yn7 {fn : LT S.codes -> Option S.X.T} (h : FnOK P S fn) {σ : TS} {ρ : List Nat} {args : List TV} {k : TS -> TV -> Option R} {r : R} (hw : σ.wf) (hwa : TV.wfs args) (hr : yn6 S fn σ ρ args k = some r) : EDoes P S.f σ args k r := by
 unfold yn6 at hr;split at hr
 ·rename_i la lb hla hlb;cases hc : kM (kA S.hp) (kA ρ) && znb (kA σ.H) σ.p S.pn ρ with
  | false => rw [hc] at hr; cases hr
  | true =>
   rw [hc] at hr;simp only [cond_true] at hr;simp only [kD] at hc;obtain ⟨hc1, hc2⟩ := hc;have hl := kJ hc1;have hwv : TV.wfs (mvs (z3c ρ) args) := (zid (fun b o h => absurd h (zlp ρ b o)) args hwa).1
   have hwH : ∀ o, o ∈ z0x (z3c ρ) σ.H S.hp (ρ.map some) -> o.wf := y9q (fun b o h => absurd h (zlp ρ b o)) hw.H
   obtain ⟨x, h1, h2, h3, h4, h5⟩ := yac hwv hwH hla hlb hr;rw [kV] at h1;obtain ⟨y, hy, hk⟩ := h1;rw [h.open'] at hk;have hwx := xI.1 h2.wf;obtain ⟨r1, r2⟩ := h.ret x y hy hwx h3;cases hpn : kq S.pn (kA (S.X.at' y).2.H) with
   | false => rw [hpn] at hk; cases hk
   | true =>
    rw [hpn] at hk;simp only [cond_true] at hk;have hw1 := ys9 hw S.pn ρ r2;have hw2 := (zjl (fun b o h => absurd h (zrz (kA σ.H) S.pn ρ b o)) _ r1).1
    refine ⟨h.can, ⟨_, _, hk, hw1, hw2⟩, fun c w a vs hrel hsz hv => ?_⟩
    have g := hrel.good;have hh : Hand c (σ.H.map TOb.flat).length S.pn ρ := by rw [kF]; exact y4f hc2 hrel.1
    have g0 := yii (yq3 hw.H g hh hl) h4 h5;have M := y9c g S.pn ρ;have hv0 : VRs w (yZ w c S.pn ρ) ((S.args x).map TV.pv) (fun i => vs[i]?) := by
     have h6 := h2.pvs;rw [qh (S.args x)] at h6;rw [<- qh] at hv;exact z2o ⟨_, _, g0⟩ h6 ((zm3 M args hwa).2.1 _ hv)
    refine ((h.calls x y hy hwx h3) w _ vs g0 rfl (by rw [kF, h2.len, hsz, zyj, kF]) hv0).mono ?_
    rintro e w' ⟨v, p, H', c', rfl, ⟨rfl, rfl⟩, g', hv', x'⟩;obtain ⟨c3, b1, b2, b3⟩ := ysa hrel hw hc2 r2 g' x' (k9 hpn);exact ⟨v, _, _, c3, rfl, hk, hw1, hw2, rfl, b1, b3 _ _ r1 hv', b2⟩
 ·cases hr
theorem zR {fn : LT S.codes -> Option S.X.T} (h : FnOK P S fn) : zrv P (xz S fn) := by
 intro R σ args k r hw hwa hr;simp only [xz, yuq] at hr ⊢;generalize hρr : (zj9 (kA σ.H) σ.p (yha S σ.H args (z78 S σ.H args)) (z78 S σ.H args) ++ (zmu S.hp (z78 S σ.H args) (kA σ.H)).2.map fun _ => none) = ρr at hr
 generalize hhs : (ko (kA σ.H) HPat.gone ++ (zmu S.hp (z78 S σ.H args) (kA σ.H)).2) = hs at hr;generalize (zmu S.hp (z78 S σ.H args) (kA σ.H)).1 = ρ at hr;generalize yha S σ.H args (z78 S σ.H args) = fz at hr;cases hc : z4g σ.p ρr && kM (kA hs) (kA ρr) with
 | false => rw [hc] at hr; cases hr
 | true =>
  rw [hc] at hr;simp only [cond_true] at hr;simp only [kD] at hc;have hwa' := xI.2 hwa;have hd := yn7 h (y6w hw) (zid (y44 hw.H) args hwa').1 hr;refine ⟨hd.can, hd.wf, fun c w a vs hrel hsz hv => ?_⟩
  obtain ⟨q1, q2⟩ := yjq hrel hw hc.1 fz (kJ hc.2);have M := ybn hrel.good hw.H hrel.1 (ρ := ρr) fz;have hv1 : VRs w (z57 c ρr) ((mvs (z23 σ.p σ.H ρr fz) args).map TV.pv) (fun i => vs[i]?) := by
   rw [<- qh] at hv ⊢;exact (zm3 M args hwa').2.1 _ hv
  refine (hd.calls _ w a vs q1 (by rw [hsz, zyj, kF]) hv1).mono ?_
  rintro e w' ⟨v, σ', t, c', e1, e2, e3, e4, e5, e6, e7, e8⟩;exact ⟨v, σ', t, c', e1, e2, e3, e4, e5, e6, e7, ExtP.trans q2 e8⟩
def z6n (n : Nat) : Nat -> List Nat
 | 0 => []
 | q + 1 => n :: z6n (n + 1) q
theorem zdr : ∀ (q n : Nat) {i b : Nat}, (z6n n q)[i]? = some b -> b = n + i /\ i < q
 | 0, _, i, b, h => by simp [z6n] at h
 | q + 1, n, 0, b, h => by simp [z6n] at h; omega
 | q + 1, n, i + 1, b, h => by
  have := zdr q (n + 1) (i := i) (by simpa [z6n] using h)
  omega
theorem ym7 : ∀ (q n : Nat) {i : Nat}, i < q -> (z6n n q)[i]? = some (n + i)
 | 0, _, i, h => by omega
 | q + 1, n, 0, h => by simp [z6n]
 | q + 1, n, i + 1, h => by
  have := ym7 q (n + 1) (i := i) (by omega)
  simp only [z6n, List.getElem?_cons_succ, this];congr 1; omega
mutual
theorem ymx {w : World} {c : Cx} (n : Nat) : ∀ (p : PV) {v : Value}, VR w c p v -> VR w { c with pn := n } p v
 | .val _, _, h => by simp only [VR] at h ⊢; exact h
 | .ptr b off, _, h => by simp only [VR] at h ⊢; exact h
 | .fz cs, _, h => by
  simp only [VR] at h ⊢;obtain ⟨a, h1, h2, hl, h3⟩ := h;exact ⟨a, h1, h2, hl, zrx n cs h3⟩
 | .sl b off len sz, _, h => by simp only [VR] at h ⊢; exact h
 | .tr len cs t, _, h => by
  simp only [VR] at h ⊢;rcases h with h | ⟨a, cap, h1, hc, h2, h4, hl, h3⟩
  ·exact .inl h
  ·refine .inr ⟨a, cap, h1, hc, h2, ?_, hl, zrx n cs h3⟩;cases t <;> exact h4
 | .fn f caps, _, h => by
  simp only [VR] at h ⊢;obtain ⟨cv, h1, h2, h3⟩ := h;exact ⟨cv, h1, h2, zrx n caps h3⟩
 | .agg cs, _, h => by
  simp only [VR] at h ⊢;obtain ⟨cv, h1, h2, hl, h3⟩ := h;exact ⟨cv, h1, h2, hl, zrx n cs h3⟩
 | .tup cs, _, h => by
  simp only [VR] at h ⊢;obtain ⟨cv, h1, h2, h3⟩ := h;exact ⟨cv, h1, h2, zrx n cs h3⟩
 | .ifc t p, _, h => by
  simp only [VR] at h ⊢;obtain ⟨v, h1, h2⟩ := h;exact ⟨v, h1, ymx n p h2⟩
 | .one, _, h => by simp only [VR] at h ⊢; exact h
 | .dead, _, _ => by simp only [VR]
theorem zrx {w : World} {c : Cx} (n : Nat) : ∀ (ps : List PV) {f : Nat -> Option Value}, VRs w c ps f -> VRs w { c with pn := n } ps f
 | [], _, _ => by simp only [VRs]
 | p :: ps, f, h => by
  simp only [VRs] at h ⊢;obtain ⟨⟨v, h1, h2⟩, h3⟩ := h;exact ⟨⟨v, h1, ymx n p h2⟩, zrx n ps h3⟩
end
theorem ynp {w w' : World} {c c' : Cx} {H' : List AObj} {pn q n : Nat} {ρ : List Nat} (hpl : pn = ρ.length) (hgone : ∀ j, j < q -> c.m[n + j]? = some none) (g' : Ab.Good w' c' H' []) (x : ExtP pn w (yZ w c pn ρ) w' c') :
  Ab.Good w' { c' with pn := (ρ ++ z6n n q).length } H' [] /\ ExtP (ρ ++ z6n n q).length w (yZ w c (ρ ++ z6n n q).length (ρ ++ z6n n q)) w' { c' with pn := (ρ ++ z6n n q).length } := by
 have hxpn : c'.pn = pn := x.pn;have hm : ∀ k : Nat, some k ∈ (yZ w c (ρ ++ z6n n q).length (ρ ++ z6n n q)).m ↔ some k ∈ (yZ w c pn ρ).m := fun k => by
  simp only [yZ, List.map_append, kT];refine ⟨fun h => h.elim id fun h => ?_, .inl⟩
  rw [kh] at h;obtain ⟨b, hb, h2⟩ := h;obtain ⟨i, hi⟩ := kH.1 hb;obtain ⟨rfl, hq⟩ := zdr q n hi;rw [hgone i hq] at h2;cases h2
 have hok : (yZ w c (ρ ++ z6n n q).length (ρ ++ z6n n q)).ok = (yZ w c pn ρ).ok := by
  funext k e;simp only [yZ];refine propext ⟨fun h hk => ?_, fun h hk => ?_⟩
  ·rcases h hk with ⟨j, b, h1, h2, _⟩ | h
   ·have := (kG.1 h2).1; omega
   ·exact .inr h
  ·rcases h hk with ⟨j, b, h1, h2, _⟩ | h
   ·have := (kG.1 h2).1; omega
   ·exact .inr h
 refine ⟨{ len := g'.len, inj := g'.inj, obj := fun b o h => ?_, tl := g'.tl, tal := g'.tal, tdead := g'.tdead, tok := g'.tok, tinj := g'.tinj, okn := g'.okn, okm := g'.okm, okt := g'.okt, oko := fun b k hb h e => g'.oko b k ?_ h e, gl := g'.gl.sub (fun _ h => h) fun i k j h => ⟨i, h⟩ }, ?_⟩
 ·have ho := g'.obj b o h;cases o with
  | row cs e =>
   rcases ho with ⟨e1, e2⟩ | ⟨k, vs', fr, e1, e2, e3, e4, e5, e6⟩
   ·exact .inl ⟨e1, e2⟩
   ·exact .inr ⟨k, vs', fr, e1, e2, e3, e4, e5, zrx _ _ e6⟩
  | raw ob => exact ho
  | gone => exact ho
 ·have : (ρ ++ z6n n q).length <= b := hb;rw [kP] at this;omega
 ·refine ⟨x.os, x.tape, x.output, x.size, fun k hk => (x.new k hk).imp (hm k).2 id, fun k hk hno => x.blocks k hk fun h => hno ((hm k).2 h), x.ok.trans hok.symm, rfl, fun b k hb h => ?_, x.room⟩
  obtain ⟨b', h1, h2⟩ := zj3 h
  by_cases hbl : b < ρ.length
  ·rw [kL hbl] at h1;exact x.pin b k (by omega) (z6x h1 h2)
  ·rw [kK (by omega)] at h1
   obtain ⟨rfl, hq⟩ := zdr q n h1;rw [hgone _ hq] at h2;cases h2
def ywr : List (Option Nat) -> Option (List Nat)
 | [] => some []
 | some b :: r => match ywr r with
  | some l => some (b :: l)
  | none => none
 | none :: _ => none
def zu8 : List Nat -> List TOb -> Option (List (Nat × TypeId × Ob))
 | [], [] => some []
 | b :: ρ, .ob e o :: H => match zu8 ρ H with
  | some l => some ((b, e, o) :: l)
  | none => none
 | _, _ => none
theorem y8x : ∀ {ρ : List Nat} {H : List TOb} {us : List (Nat × TypeId × Ob)}, zu8 ρ H = some us -> us.map (·.1) = ρ /\ ρ.length = H.length /\ ∀ (j : Nat) u, us[j]? = some u -> H[j]? = some (.ob u.2.1 u.2.2)
 | [], [], us, h => by cases h; exact ⟨rfl, rfl, fun j u hu => by simp at hu⟩
 | b :: ρ, .ob e o :: H, us, h => by
  simp only [zu8] at h;split at h
  ·rename_i l hl;cases h;obtain ⟨h1, h2, h3⟩ := y8x hl;refine ⟨by simp [h1], by simp [h2], fun j u hu => ?_⟩
   cases j with
   | zero => simp at hu; subst hu; rfl
   | succ j => simpa using h3 j u (by simpa using hu)
  ·cases h
 | [], _ :: _, _, h => by simp [zu8] at h
 | _ :: _, [], _, h => by simp [zu8] at h
 | _ :: _, .gone :: _, _, h => by simp [zu8] at h
def y9u (ρ : List Nat) (pn : Nat) (j : Nat) : Fate := bif kN j pn then .to (y9b ρ j) else .gone
theorem y6r (ρ : List Nat) (pn b : Nat) (o : Ob) : y9u ρ pn b ≠ .fz o := by
 unfold y9u;cases kN b pn <;> simp
def yul (S : Sig) (fn : LT S.codes -> Option S.X.T) (σ : TS) (ρ : List Nat) (args : List TV) (k : TV -> List (Nat × TypeId × Ob) -> Nat -> List Nat -> Option R) : Option R :=
  match xH S.A (mvs (z3c ρ) args), z0v S.hp (z0x (z3c ρ) σ.H S.hp (ρ.map some)) with
  | some a, some b => bif kM (kA S.hp) (kA ρ) && kM S.pn (kA ρ) && znb (kA σ.H) σ.p S.pn ρ then
      z5z S.codes (a ++ b) fun x => zeb (S.lens (yR S.codes x)) (z49 S.A (mvs (z3c ρ) args) ++ zcp S.hp (z0x (z3c ρ) σ.H S.hp (ρ.map some)))
        ((fn x).bind fun y => S.X.open' y fun _ τ => match zu8 (ρ ++ z6n (kA σ.H) (kA τ.H - kA ρ)) (τ.H.map (TOb.mv (y9u (ρ ++ z6n (kA σ.H) (kA τ.H - kA ρ)) (kA τ.H)))) with
          | some us => k ((za9 τ).mv (y9u (ρ ++ z6n (kA σ.H) (kA τ.H - kA ρ)) (kA τ.H))) us (kA τ.H - kA ρ) []
          | none => none)
    else none
  | _, _ => none
def ysl (S : Sig) (fn : LT S.codes -> Option S.X.T) : DEnt where
 f := S.f
 ok := fun σ args => y46 S.A args
 run := fun σ args k => match ywr (z78 S σ.H args) with
  | some ρ => yul S fn σ ρ args k
  | none => none
theorem yfv : ∀ (us : List (Nat × List PV × TypeId)) {H : List AObj} {j b : Nat} {cs : List PV} {e : TypeId}, (∀ i j b : Nat, (us.map (·.1))[i]? = some b -> (us.map (·.1))[j]? = some b -> i = j) -> us[j]? = some (b, cs, e) -> b < H.length -> (D.setAll us H)[b]? = some (.row cs e)
 | [], _, j, _, _, _, _, h, _ => by simp at h
 | u :: us, H, 0, b, cs, e, hinj, h, hl => by
  simp only [List.getElem?_cons_zero, Option.some.injEq] at h;subst h;show (D.setAll us (H.set b _))[b]? = _;rw [D.setAll_ne us fun hm => ?_]
  ·rw [List.getElem?_set_self hl]
  ·obtain ⟨i, hi⟩ := kH.1 hm;have := hinj 0 (i + 1) b (by simp) (by simpa using hi)
   omega
 | u :: us, H, j + 1, b, cs, e, hinj, h, hl => by
  show (D.setAll us (H.set u.1 _))[b]? = _;exact yfv us (fun i j b h1 h2 => by
   have := hinj (i + 1) (j + 1) b (by simpa using h1) (by simpa using h2)
   omega) (by simpa using h) (by simpa using hl)
theorem yv2 {fn : LT S.codes -> Option S.X.T} (h : FnOK P S fn) : zru P (ysl S fn) := by
 intro R σ args k r hw hwa hr;simp only [ysl] at hr ⊢;split at hr
 ·rename_i ρ hρ0;have hwa' := xI.2 hwa;unfold yul at hr;split at hr
  ·rename_i la lb hla hlb;cases hc : kM (kA S.hp) (kA ρ) && kM S.pn (kA ρ) && znb (kA σ.H) σ.p S.pn ρ with
   | false => rw [hc] at hr; cases hr
   | true =>
    rw [hc] at hr;simp only [cond_true] at hr;simp only [kD] at hc;obtain ⟨⟨hc1, hc3⟩, hc2⟩ := hc;have hl := kJ hc1;have hpn := kJ hc3;have hwv : TV.wfs (mvs (z3c ρ) args) := (zid (fun b o h => absurd h (zlp ρ b o)) args hwa').1
    have hwH : ∀ o, o ∈ z0x (z3c ρ) σ.H S.hp (ρ.map some) -> o.wf := y9q (fun b o h => absurd h (zlp ρ b o)) hw.H
    obtain ⟨x, h1, h2, h3, h4, h5⟩ := yac hwv hwH hla hlb hr;rw [kV] at h1;obtain ⟨y, hy, hk⟩ := h1;rw [h.open'] at hk;have hwx := xI.1 h2.wf;obtain ⟨r1, r2⟩ := h.ret x y hy hwx h3;generalize hq : kA (S.X.at' y).2.H - kA ρ = q at hk;split at hk
    ·rename_i us hus;obtain ⟨u1, u2, u3⟩ := y8x hus;simp only [kF] at u2;have u4 := u2.symm;rw [u4] at hk u3;generalize hρ' : ρ ++ z6n (kA σ.H) q = ρ' at hus hk u1 u2 u3 u4;have hbρ : ∀ b, b ∈ ρ -> b < σ.H.length := fun b hb => by
      simp only [znb, kD] at hc2;exact zmo hc2.1.1.1 b hb
     have hlt : ∀ b, b ∈ us.map (·.1) ++ [] -> b < σ.H.length + q := fun b hb => by
      rw [ka, u1, <- hρ'] at hb;rcases kT.1 hb with hb | hb
      ·have := hbρ b hb; omega
      ·obtain ⟨i, hi⟩ := kH.1 hb;have := zdr q _ hi; omega
     refine ⟨_, us, q, [], hk, h.can, (zjl (fun b o h => absurd h (y6r _ _ b o)) _ r1).1, fun u hu => ?_, hlt, fun j hj => ?_, fun Y w c vs hY hYg g hsz hv => ?_⟩
     ·obtain ⟨j, hj⟩ := kH.1 hu;have := kC (u3 j u hj);simp only [kh] at this;obtain ⟨o', ho', e'⟩ := this;have hwf := zwc (g := y9u ρ' ρ'.length) (fun b o h => absurd h (y6r _ _ b o)) (r2 _ ho')
      rw [e'] at hwf;exact hwf
     ·rw [ka, u1, <- hρ'];exact List.mem_append_right _ (kC (ym7 q _ hj))
     ·-- the names
      have hYρ : ∀ b, b ∈ ρ -> Y[b]? = (σ.H.map TOb.flat)[b]? := fun b hb => hY b (by rw [ka, u1, <- hρ']; exact List.mem_append_left _ hb) (hbρ b hb)
      have hltY : ∀ b, b ∈ ρ -> b < Y.length := fun b hb => by
       have h6 := hbρ b hb;have h7 := hYρ b hb;rw [kB, kE h6] at h7;exact (kG.1 h7).1
      have hltY' : ∀ b, b ∈ ρ' -> b < Y.length := fun b hb => by
       rw [<- hρ'] at hb;rcases kT.1 hb with hb | hb
       ·exact hltY b hb
       ·obtain ⟨i, hi⟩ := kH.1 hb;obtain ⟨rfl, hi2⟩ := zdr q _ hi;exact (kG.1 (hYg i hi2)).1
      have hgone : ∀ j, j < q -> c.m[kA σ.H + j]? = some none := fun j hj => g.obj _ _ (hYg j hj)
      have hh0 : Hand { c with pn := σ.p } σ.H.length S.pn ρ := y4f hc2 rfl;have hh : Hand c Y.length S.pn ρ := ⟨fun j b hj => hltY b (kC hj), hh0.inj, fun j b hj hb => by
       have := (kG.1 hb).1; omega, hh0.pnl⟩
      have hinj' : ∀ i j b : Nat, ρ'[i]? = some b -> ρ'[j]? = some b -> i = j := fun i j b h1 h2 => by
       rw [<- hρ'] at h1 h2
       by_cases hi : i < ρ.length
       ·rw [kL hi] at h1
        by_cases hj : j < ρ.length
        ·rw [kL hj] at h2;exact hh0.inj i j b h1 h2
        ·rw [kK (by omega)] at h2
         have := zdr q _ h2;have := hbρ b (kC h1);omega
       ·rw [kK (by omega)] at h1
        have e1 := zdr q _ h1
        by_cases hj : j < ρ.length
        ·rw [kL hj] at h2;have := hbρ b (kC h2);omega
        ·rw [kK (by omega)] at h2
         have e2 := zdr q _ h2;omega
      have hh' : Hand c Y.length ρ'.length ρ' := ⟨fun j b hj => hltY' b (kC hj), hinj', fun j b hj hb => by
       have := (kG.1 hb).1; omega, km _⟩
      have M := y9c g S.pn ρ;have g0 : Ab.Good w (yZ w c S.pn ρ) ((z0x (z3c ρ) σ.H S.hp (ρ.map some)).map TOb.flat) [] := by
       refine yf7 g hh (by rw [kF, zt1 (by simpa using hl), kF]) fun j b o hj ho => ?_
       simp only [kB] at ho;cases hq : (z0x (z3c ρ) σ.H S.hp (ρ.map some))[j]? with
       | none => rw [hq] at ho; cases ho
       | some q =>
        rw [hq] at ho;simp only [kI, Option.some.injEq] at ho;subst ho;have hYb := hYρ b (kC hj);have hbl := hbρ b (kC hj);rcases zhc hq with ⟨h1, _⟩ | ⟨b', h1, h2⟩
        ·rw [kB, hj] at h1; cases h1
        ·rw [kB, hj] at h1;cases h1;rcases h2 with ⟨e, t, h2, rfl⟩ | ⟨e, u, l, h2, rfl⟩ | ⟨h2, rfl⟩
         ·have hwt := hw.H _ (kC h2);have m := z4f M t hwt.1;exact .inr ⟨t.cells, e, _, by rw [hYb, kB, h2]; rfl, rfl, m.len, m.leafs (qy hwt.1 hwt.2), fun fv hf => m.cells fv hf⟩
         ·have hwt := hw.H _ (kC h2);exact .inr ⟨zI u l, e, _, by rw [hYb, kB, h2]; rfl, rfl, rfl, xL hwt, fun fv hf => VRs.transfer (fun a n h => M.base.foot a n h) _ (jL hwt) hf⟩
         ·rcases h2 with h2 | h2
          ·have := List.getElem?_eq_none_iff.1 h2; omega
          ·exact .inl ⟨by rw [hYb, kB, h2]; rfl, rfl⟩
      have g1 := yii g0 h4 h5;have hv0 : VRs w (yZ w c S.pn ρ) ((S.args x).map TV.pv) (fun i => vs[i]?) := by
       have h6 := h2.pvs;rw [qh (S.args x)] at h6;rw [<- qh] at hv;exact z2o ⟨_, _, g1⟩ h6 ((zm3 M args hwa').2.1 _ hv)
      refine ((h.calls x y hy hwx h3) w _ vs g1 rfl (by rw [kF, h2.len, hsz, zyj, kF]) hv0).mono ?_
      rintro ed w' ⟨v, p, H', c', rfl, ⟨rfl, rfl⟩, g', hv', x'⟩;obtain ⟨g'', x''⟩ := ynp hpn hgone g' x';rw [hρ'] at g'' x'';have hxT : c'.T = [] := Ab.noT g';have hlen' : ((S.X.at' y).2.H.map TOb.flat).length = ρ'.length := by rw [kF, <- u2]
      have hcm : c'.m.length = ρ'.length := by rw [g'.len, hlen']
      have xx := yhp g hh' g'' x'';have M0 := y7s g hh' g'' x'' (by omega)
      have M2 : MvH (y9u ρ' ρ'.length) w' { c' with pn := ρ'.length } w' (yh c { c' with pn := ρ'.length } Y.length ρ'.length ρ') := by
       refine ⟨⟨M0.noT, fun b j k hf hm => ?_, M0.foot, M0.cell, M0.room⟩, fun b o h => absurd h (y6r _ _ b o), fun b o k h => absurd h (y6r _ _ b o)⟩
       unfold y9u at hf;cases hb : kN b ρ'.length with
       | false => rw [hb] at hf; cases hf
       | true =>
        rw [hb] at hf;simp only [cond_true, Fate.name, Option.some.injEq] at hf;subst hf;have := M0.id b _ k rfl hm;unfold zs0 at this;rw [if_pos (kU.mp hb)] at this;rw [ydi, List.getD_eq_getElem?_getD]; exact this
      have ids : ∀ b k : Nat, c.m[b]? = some (some k) -> (yh c { c' with pn := ρ'.length } Y.length ρ'.length ρ').m[b]? = some (some k) := fun b k hb => by
       have hbl : b < Y.length := by rw [<- g.len]; exact (kG.1 hb).1
       cases hp : z1n ρ' b with
       | none => rw [z7k hbl, hp]; simp only [hb, kj]
       | some j =>
        have hj := z29 hp;have hlj : j < ρ'.length := (kG.1 hj).1;rw [y8z hinj' hbl hj hlj (by show j < c'.m.length; omega)]
        exact x''.pin j k hlj (z6x hj hb)
      have hT : c.T = [] := Ab.noT g;have X : Ext w c w' (yh c { c' with pn := ρ'.length } Y.length ρ'.length ρ') :=
       {os := xx.os, tape := xx.tape, output := xx.output, size := xx.size
        ids := ids
        new := xx.new
        blocks := fun k hk hkm _ => xx.blocks k hk hkm
        cells := fun k hk hkm off v _ hv => by rw [jm (xx.blocks k hk hkm)]; exact hv
        toks := fun i k j h => by rw [show (yh c { c' with pn := ρ'.length } Y.length ρ'.length ρ').T = c.T from rfl, hT] at h; simp at h
        stay := fun i k j hi h => by rw [hT] at hi; simp at hi
        tlen := km _
        room := xx.room
        pn := xx.pn
        ok := xx.ok }
      have hv'' : VR w' { c' with pn := ρ'.length } (za9 (S.X.at' y).2).pv v := ymx _ _ hv';refine ⟨v, _, rfl, (z4f M2 _ r1).pv v hv'', ?_, X⟩;have hinjU : ∀ i j b : Nat, ((z4r us).map (·.1))[i]? = some b -> ((z4r us).map (·.1))[j]? = some b -> i = j := by
       have : (z4r us).map (·.1) = ρ' := by rw [<- u1]; simp [z4r]
       rw [this]; exact hinj'
      have huslen : us.length = ρ'.length := by rw [<- u1, kF]
      refine (yap g hh' g'' x'' (by omega) (H3 := D.setAll (z4r us) Y) (by rw [D.setAll_len]; omega) (fun j b hj hb => ?_) (fun j b hj hb => ?_) (fun b o hb hno ho => ?_) (fun j hj hl => ?_)).1
      ·have hju : j < us.length := by rw [huslen]; exact hj
       have hu := kE hju;generalize us[j] = u at hu;have hub : u.1 = b := by
        have : (us.map (·.1))[j]? = some u.1 := by rw [kB, hu]; rfl
        rw [u1, hb] at this;exact (Option.some.inj this).symm
       have h6 := u3 j u hu;rw [kB] at h6;cases h7 : (S.X.at' y).2.H[j]? with
       | none => rw [h7] at h6; cases h6
       | some o0 =>
        rw [h7] at h6;simp only [kI, Option.some.injEq] at h6;refine ⟨o0.flat, .row u.2.2.cells u.2.1, by rw [kB, h7]; rfl, ?_, ?_⟩
        ·refine yfv (z4r us) (j := j) hinjU ?_ (hltY' b (kC hb));simp only [z4r, kB, hu, kI, hub]
        ·rcases yd1 M2 (r2 _ (kC h7)) with ⟨e1, e2⟩ | ⟨cs, e, cs2, e1, e2, e3, e4, e5⟩
         ·rw [h6] at e2; cases e2
         ·rw [h6] at e2;cases e2;exact .inr ⟨cs, u.2.1, _, e1, rfl, e3, e4, e5⟩
      ·have := (kG.1 hb).1; omega
      ·have hnm : b ∉ (z4r us).map (·.1) := by
        have : (z4r us).map (·.1) = ρ' := by rw [<- u1]; simp [z4r]
        rw [this];intro hm;obtain ⟨i, hi⟩ := kH.1 hm;exact hno i hi
       rw [D.setAll_ne _ hnm] at ho;have hob := g.obj b o ho;have hp : z1n ρ' b = none := by
        cases hp : z1n ρ' b with
        | none => rfl
        | some j => exact absurd (z29 hp) (hno j)
       have hm : (yh c { c' with pn := ρ'.length } Y.length ρ'.length ρ').m[b]? = c.m[b]? := by
        rw [z7k hb, hp];have hbl : b < c.m.length := by rw [g.len]; exact hb
        rw [kE hbl]; rfl
       have same : ∀ k : Nat, c.m[b]? = some (some k) -> w'.heap[k]? = w.heap[k]? := fun k hk => by
        refine x''.blocks k (ObjC.lt g hk) fun hm => ?_
        obtain ⟨i, b', h12, h13⟩ := z6y hm;have := g.inj b b' k hk h13;subst this;exact hno i h12
       cases o with
       | row cs e =>
        rcases hob with ⟨e1, e2⟩ | ⟨k, vs', fr, e1, e2, e3, e4, e5, e6⟩
        ·exact .inl ⟨e1, hm.trans e2⟩
        ·exact .inr ⟨k, vs', fr, hm.trans e1, by rw [same k e1]; exact e2, e3, e4, e5, VRs.ext X cs (fun _ _ _ e => e) e6⟩
       | raw ob =>
        obtain ⟨k, e1, e2⟩ := hob;exact ⟨k, hm.trans e1, by rw [same k e1]; exact e2⟩
       | gone => exact hm.trans hob
      ·omega
    ·cases hk
  ·cases hr
 ·cases hr
mutual
theorem U.beq_self : ∀ u : U, u.beq u = true
 | .int k => by cases k <;> rfl
 | .bool => rfl
 | .str => rfl
 | .leaf => rfl
 | .arr n u => by simp only [U.beq, ki, U.beq_self u, Bool.and_self]
 | .sl u => by simp only [U.beq, U.beq_self u]
 | .st us => by simp only [U.beq, Us.beq_self us]
theorem Us.beq_self : ∀ u : Us, u.beq u = true
 | .one u => by simp only [Us.beq, U.beq_self u]
 | .cons u us => by simp only [Us.beq, U.beq_self u, Us.beq_self us, Bool.and_self]
end
theorem yav (u : U) (x : u.T) (k : u.T -> Option R) : vt u u x k = k x := by
 unfold vt;split
 ·rfl
 ·rename_i h; rw [U.beq_self] at h; cases h
mutual
def zt0 : (u : U) -> u.T -> Prop
 | .str, s => kA s <= maxLen
 | .arr _ u, l => ∀ x, x ∈ l -> zt0 u x
 | .sl u, l => kA l <= maxLen /\ ∀ x, x ∈ l -> zt0 u x
 | .st us, x => ynv us x
 | _, _ => True
def ynv : (us : Us) -> us.T -> Prop
 | .one u, x => zt0 u x
 | .cons u us, x => zt0 u x.1 /\ ynv us x.2
end
theorem ys8 (l : List UInt8) : ba (l.map fun b => (b.toNat : Int)) = ⟨l.toArray⟩ := by
 unfold ba;congr 2;rw [List.map_map];have : ((fun n : Int => UInt8.ofNat n.toNat) ∘ fun b : UInt8 => (b.toNat : Int)) = id := by
  funext b; simp
 rw [this, List.map_id]
theorem y47 {H : Type} {P : Program} {n : Nat} {e : TypeId} {u : U} (h : ∀ d : DataW H, Ab.Fits P n e d -> ∃ x : u.T, wfU u x /\ zt0 u x /\ xT d = zr u x) :
  ∀ xs : List (DataW H), (∀ x, x ∈ xs -> Ab.Fits P n e x) -> ∃ l : List u.T, l.length = xs.length /\ (∀ x, x ∈ l -> wfU u x) /\ (∀ x, x ∈ l -> zt0 u x) /\ xy xs = l.flatMap fun x => zr u x
 | [], _ => ⟨[], rfl, fun x hx => (by cases hx), fun x hx => (by cases hx), by simp [xy]⟩
 | d :: xs, hf => by
  obtain ⟨x, h1, h2, h3⟩ := h d (hf d (by simp))
  obtain ⟨l, g1, g2, g3, g4⟩ := y47 h xs fun y hy => hf y (by simp [hy])
  refine ⟨x :: l, by simp [g1], fun y hy => ?_, fun y hy => ?_, by simp [xy, h3, g4]⟩
  ·rcases kS.1 hy with rfl | hy
   ·exact h1
   ·exact g2 y hy
  ·rcases kS.1 hy with rfl | hy
   ·exact h2
   ·exact g3 y hy
mutual
theorem y48 {H : Type} {P : Program} : ∀ (u : U) (n m : Nat) (t : TypeId) (d : DataW H), Ab.Fits P n t d -> qW P m t u = true -> ∃ x : u.T, wfU u x /\ zt0 u x /\ xT d = zr u x
 | _, 0, _, _, _, h, _ => h.elim
 | _, _ + 1, 0, _, _, _, h => by simp [qW] at h
 | .int k, n + 1, m + 1, t, d, hf, ha => by
  simp only [qW, kD] at ha;simp only [Ab.Fits] at hf;cases hu : P.underlying t with
  | none => rw [hu] at hf; exact hf.elim
  | some y =>
   rw [hu] at ha hf;cases y <;> first | (cases ha.2; done) | skip
   rename_i k';have := z71 ha.2;subst this;obtain ⟨x, rfl, hw⟩ := hf;refine ⟨x, ?_, trivial, rfl⟩;simpa [wfU, Lit.wf] using hw
 | .bool, n + 1, m + 1, t, d, hf, ha => by
  simp only [qW, kD] at ha;simp only [Ab.Fits] at hf;cases hu : P.underlying t with
  | none => rw [hu] at hf; exact hf.elim
  | some y =>
   rw [hu] at ha hf;cases y <;> first | (cases ha.2; done) | skip
   obtain ⟨b, rfl⟩ := hf;exact ⟨b, trivial, trivial, rfl⟩
 | .str, n + 1, m + 1, t, d, hf, ha => by
  simp only [qW, kD] at ha;simp only [Ab.Fits] at hf;cases hu : P.underlying t with
  | none => rw [hu] at hf; exact hf.elim
  | some y =>
   rw [hu] at ha hf;cases y <;> first | (cases ha.2; done) | skip
   obtain ⟨l, rfl, hl⟩ := hf;refine ⟨l.map fun b => (b.toNat : Int), ?_, ?_, ?_⟩
   ·intro i hi;simp only [kh] at hi;obtain ⟨b, _, rfl⟩ := hi;have := b.toNat_lt;exact ⟨by omega, by omega⟩
   ·simpa [zt0] using hl
   ·simp only [xT, zr, ys8]
 | .arr k u, n + 1, m + 1, t, d, hf, ha => by
  simp only [qW, kD] at ha;simp only [Ab.Fits] at hf;cases hu : P.underlying t with
  | none => rw [hu] at hf; exact hf.elim
  | some y =>
   rw [hu] at ha hf;cases y <;> first | (cases ha.2; done) | skip
   obtain ⟨xs, rfl, hl, hx⟩ := hf;have ha := ha.2;simp only [kD] at ha;have ek := kJ ha.1;obtain ⟨l, g1, g2, g3, g4⟩ := y47 (fun d hd => y48 u n m _ d hd ha.2) xs hx
   exact ⟨l, ⟨by rw [g1, hl, ek], g2⟩, g3, by simp only [xT, zr, g4]⟩
 | .sl u, n + 1, m + 1, t, d, hf, ha => by
  simp only [qW, kD] at ha;simp only [Ab.Fits] at hf;cases hu : P.underlying t with
  | none => rw [hu] at hf; exact hf.elim
  | some y =>
   rw [hu] at ha hf;cases y <;> first | (cases ha.2; done) | skip
   rcases hf with rfl | ⟨es, sp, rfl, hcap, hx⟩
   ·exact ⟨[], fun x hx => (by cases hx), ⟨Nat.zero_le _, fun x hx => (by cases hx)⟩, by simp [xT, zr]⟩
   ·obtain ⟨l, g1, g2, g3, g4⟩ := y47 (fun d hd => y48 u n m _ d hd ha.2) es hx
    exact ⟨l, g2, ⟨by rw [g1]; exact hcap, g3⟩, by simp only [xT, zr, g4, g1]⟩
 | .st us, n + 1, m + 1, t, d, hf, ha => by
  simp only [qW, kD] at ha;simp only [Ab.Fits] at hf;cases hu : P.underlying t with
  | none => rw [hu] at hf; exact hf.elim
  | some y =>
   rw [hu] at ha hf;cases y <;> first | (cases ha.2; done) | skip
   rename_i fs;obtain ⟨xs, rfl, hl, hx⟩ := hf;obtain ⟨x, g1, g2, g3⟩ := ylv us n m fs.toList xs 0 (by simpa using hl.symm) (fun i f x hi hxi => hx i f x (by simpa using hi) hxi) ha.2
   exact ⟨x, g1, g2, by simp only [xT, zr, g3]⟩
 | .leaf, n + 1, m + 1, t, d, hf, ha => by
  simp only [qW, kD] at ha;cases hu : P.underlying t with
  | none => rw [hu] at ha; cases ha.2
  | some y =>
   rw [hu] at ha;cases y <;> cases ha.2
theorem ylv {H : Type} {P : Program} : ∀ (us : Us) (n m : Nat) (fs : List Field) (xs : List (DataW H)) (off : Nat), fs.length = xs.length ->
  (∀ (i : Nat) f x, fs[i]? = some f -> xs[i]? = some x -> Ab.Fits P n f.type x) -> z2z (qW P m) fs us off = true -> ∃ x : us.T, qz us x /\ ynv us x /\ xy xs = yw us x
 | .one u, n, m, fs, xs, off, hl, hx, ha => by
  match fs, xs, hl with
  | [], _, _ => simp [z2z] at ha
  | [f], [d], _ =>
   simp only [z2z, kD] at ha;obtain ⟨x, g1, g2, g3⟩ := y48 u n m f.type d (hx 0 f d rfl rfl) ha.2;exact ⟨x, g1, g2, by simp [xy, yw, g3]⟩
  | _ :: _ :: _, _, _ => simp [z2z] at ha
 | .cons u us, n, m, fs, xs, off, hl, hx, ha => by
  match fs, xs, hl with
  | [], _, _ => simp [z2z] at ha
  | [f], _, _ => simp [z2z] at ha
  | f :: g :: fs, d :: e :: xs, hl =>
   simp only [z2z, kD] at ha;obtain ⟨x, g1, g2, g3⟩ := y48 u n m f.type d (hx 0 f d rfl rfl) ha.1.2;obtain ⟨y, k1, k2, k3⟩ := ylv us n m (g :: fs) (e :: xs) _ (by simpa using hl) (fun i f x hi hxi => hx (i + 1) f x (by simpa using hi) (by simpa using hxi)) ha.2
   refine ⟨(x, y), ⟨g1, k1⟩, ⟨g2, k2⟩, ?_⟩;rw [xy, g3, k3]; rfl
end
theorem ypc {m : Nat} {t : TypeId} {u : U} (h : qW P m t u = true) : ve P t = some u.isAgg := by
 cases m with
 | zero => simp [qW] at h
 | succ m =>
  simp only [qW, kD] at h;have h := h.2;unfold ve;cases hu : P.underlying t with
  | none => rw [hu] at h; cases h
  | some y =>
   rw [hu] at h;cases y <;> cases u <;> first | rfl | (cases h; done)
theorem ype {H : Type} {n m : Nat} {t : TypeId} {d : DataW H} {u : U} (hf : Ab.Fits P n t d) (ha : qW P m t u = true) : ∃ x : u.T, wfU u x /\ zt0 u x /\ ze5 P t d = pvU u x := by
 obtain ⟨x, h1, h2, h3⟩ := y48 u n m t d hf ha;refine ⟨x, h1, h2, ?_⟩;unfold ze5;rw [ypc ha, h3];cases u <;> first | rfl | exact h1.elim
def ziv (P : Program) (m : Nat) : List TypeId -> List U -> Bool
 | [], [] => true
 | t :: ts, u :: us => qW P m t u && ziv P m ts us
 | _, _ => false
def wfL : (l : List U) -> LT l -> Prop
 | [], _ => True
 | [u], x => wfU u x
 | u :: v :: r, x => wfU u x.1 /\ wfL (v :: r) x.2
def yt0 : (l : List U) -> LT l -> Prop
 | [], _ => True
 | [u], x => zt0 u x
 | u :: v :: r, x => zt0 u x.1 /\ yt0 (v :: r) x.2
theorem ylp {H : Type} {P : Program} {n m : Nat} : ∀ (l : List U) {ts : List TypeId} {ds : List (DataW H)}, ts.length = ds.length -> (∀ (j : Nat) t d, ts[j]? = some t -> ds[j]? = some d -> Ab.Fits P n t d) -> ziv P m ts l = true ->
  ∃ x : LT l, wfL l x /\ yt0 l x /\ List.zipWith (ze5 P) ts ds = (yR l x).map TV.pv /\ (∀ a, a ∈ yR l x -> a.wf) /\ ∀ (R : Type) (k : LT l -> Option R), z5z l (yR l x) k = k x
 | [], ts, ds, hl, hf, ha => by
  match ts, ds, hl with
  | [], [], _ => exact ⟨(), trivial, trivial, rfl, fun a h => (by cases h), fun R k => rfl⟩
  | _ :: _, _, _ => simp [ziv] at ha
 | [u], ts, ds, hl, hf, ha => by
  match ts, ds, hl with
  | [], _, _ => simp [ziv] at ha
  | [t], [d], _ =>
   simp only [ziv, kD, and_true] at ha;obtain ⟨x, h1, h2, h3⟩ := ype (hf 0 t d rfl rfl) ha;refine ⟨x, h1, h2, by simp [yR, h3, TV.pv], fun a h => ?_, fun R k => ?_⟩
   ·simp only [yR, List.mem_singleton] at h; subst h; simpa only [TV.wf] using h1
   ·simp only [yR, z5z, qu, yav]
  | _ :: _ :: _, _, _ => simp [ziv] at ha
 | u :: v :: r, ts, ds, hl, hf, ha => by
  match ts, ds, hl with
  | [], _, _ => simp [ziv] at ha
  | t :: ts, d :: ds, hl =>
   simp only [ziv, kD] at ha;obtain ⟨x, h1, h2, h3⟩ := ype (hf 0 t d rfl rfl) ha.1;obtain ⟨y, g1, g2, g3, g4, g5⟩ := ylp (v :: r) (ts := ts) (ds := ds) (by simpa using hl) (fun j t d ht hd => hf (j + 1) t d (by simpa using ht) (by simpa using hd)) ha.2
   refine ⟨(x, y), ⟨h1, g1⟩, ⟨h2, g2⟩, by simp [yR, h3, g3, TV.pv], fun a h => ?_, fun R k => ?_⟩
   ·simp only [yR, kS] at h;rcases h with rfl | h
    ·simpa only [TV.wf] using h1
    ·exact g4 a (by simpa [yR] using h)
   ·simp only [yR, z5z, qu, yav];exact g5 R fun y => k (x, y)
def yyd : XS := XS.one .ret (Shp.mk 1 0 [(0, .d .bool)] []).xe
def zjk (f : FuncId) (A : List Pat) : Sig := ⟨f, A, [], 0, yyd⟩
theorem ysx {H : Type} {f : FuncId} {n m : Nat} {A : List Pat} {law : LT (zjk f A).codes -> Option Bool} {ts : List TypeId} {ds : List (DataW H)} (hE : FnOK P (zjk f A) law)
  (hargs : ∀ x, (zjk f A).args x = yR (zjk f A).codes x)
  (hl : ts.length = ds.length) (hf : ∀ (j : Nat) t d, ts[j]? = some t -> ds[j]? = some d -> Ab.Fits P n t d) (ha : ziv P m ts (zjk f A).codes = true)
  (h : ∀ x, wfL (zjk f A).codes x -> yt0 (zjk f A).codes x -> law x = some true) : ACalls P f (List.zipWith (ze5 P) ts ds) [] 0 (fun p _ _ => p = .val (.bool true)) := by
 obtain ⟨x, h1, h2, h3, h4, h5⟩ := ylp (zjk f A).codes hl hf ha;have hcall := hE.calls x true (h x h1 h2) (fun t ht => h4 t (by rw [<- hargs]; exact ht)) (fun o ho => by cases ho)
 rw [hargs, <- h3] at hcall;intro w c vs g hpn0 hsz hvs;refine (hcall w c vs g hpn0 hsz hvs).mono ?_;rintro e w' ⟨v, p, H', c', rfl, ⟨rfl, rfl⟩, g', hv, hx⟩;have hm : c.m = [] := kQ (by rw [g.len]; rfl)
 have hT : c.T = [] := Ab.noT g;have hT' : c'.T = [] := Ab.noT g';refine ⟨v, _, _, [], c', rfl, rfl, g', hv, ?_⟩;exact
   {os := hx.os, tape := hx.tape, output := hx.output, size := hx.size
    ids := fun b k h => by rw [hm] at h; simp at h
    new := hx.new
    blocks := fun k hk hkm _ => hx.blocks k hk hkm
    cells := fun k hk hkm off v _ hv => by rw [jm (hx.blocks k hk hkm)]; exact hv
    toks := fun i k j h => by rw [hT'] at h; simp at h
    stay := fun i k j _ h => by rw [hT'] at h; simp at h
    tlen := by rw [hT, hT']; exact km _
    room := hx.room
    pn := hx.pn
    ok := hx.ok }
@[reducible] def ysy (l : List Bool) : Nat := kA l
theorem ysz (n : Nat) : ysy (ko n true) = n := kO ..
theorem y0g {S X : Type} (F : S -> Option (S ⊕ X)) (st : Nat -> S) (res : Nat -> X) (n : Nat) (last : F (st n) = some (.inr (res n)))
  (step : ∀ i, i < n -> (F (st i) = some (.inl (st (i + 1))) /\ res i = res (i + 1)) \/ F (st i) = some (.inr (res i))) : zb F (st 0) = some (res 0) := by
 have key : ∀ k i, i + k = n -> zb F (st i) = some (res i) := by
  intro k
  induction k with
  | zero => intro i h; rw [show i = n by omega, zL, last]; rfl
  | succ k ih =>
   intro i h;rw [zL];rcases step i (by omega) with ⟨h1, h2⟩ | h1
   ·rw [h1, h2]; exact ih (i + 1) (by omega)
   ·rw [h1]; rfl
 exact key n 0 (by omega)
theorem zaz (k : IntKind) {n : Int} (h : k.min <= n /\ n <= k.max) : k.wrap n = n := by
 revert h;cases k <;> simp only [IntKind.min, IntKind.max, IntKind.wrap, IntKind.bits, IntKind.signed] <;> simp <;> intro h1 h2 <;> (try split) <;> omega
theorem zo {n : Int} (h : -9223372036854775808 <= n /\ n <= 9223372036854775807) : W64 n = n := zaz .i64 h
theorem z5k {n : Int} (h : 0 <= n /\ n <= 18446744073709551615) : xJ n = n := zaz .u64 h
theorem zax {n : Int} (h : 0 <= n /\ n <= 4294967295) : z7j n = n := zaz .u32 h
theorem ywp {n : Int} (h : 0 <= n /\ n <= 255) : WU8 n = n := zaz .u8 h
theorem zY {a b : Int} (h : a < b) : ltI a b = true := by simpa [ltI] using h
theorem zP {a b : Int} (h : ¬ a < b) : ltI a b = false := by simpa [ltI] using h
theorem z3g {a b : Int} (h : a <= b) : leI a b = true := by simpa [leI] using h
theorem yhc {a b : Int} (h : ¬ a <= b) : leI a b = false := by simpa [leI] using h
theorem ql {a b : Int} (h : a = b) : eqI a b = true := by simpa [eqI] using h
theorem z00 {a b : Int} (h : ¬ a = b) : eqI a b = false := by simpa [eqI] using h
theorem qX {a b : Int} (h : ¬ a = b) : neI a b = true := by simpa [neI] using h
theorem xj {a b : Int} (h : a = b) : neI a b = false := by simpa [neI] using h
variable {n : Nat}
theorem yhb {i : Int} (h : 0 <= i /\ i < n) : inI i n = true := by simp [inI, leI, ltI]; omega
theorem zlf (n : Nat) : kq n n = true := ke.mpr (km n)
theorem yxm {n m : Nat} (h : n = m) : kM n m = true := by subst h; exact ki n
theorem yxn {n m : Nat} (h : n <= m) : kq n m = true := ke.mpr h
theorem z4h {R α : Type} (l : List α) (n : Nat) (h : n = l.length) (k : List α -> Option R) : yf l 0 n k = k l := by
 subst h;unfold yf;have : zc6 0 (kA l) = kA l := rfl;rw [this, zlf];simp [zxe]
theorem ys0 {R α : Type} (l : List α) (i n : Nat) (h : i + n <= l.length) (k : List α -> Option R) : yf l i n k = k ((l.drop i).take n) := by
 unfold yf;rw [zlc, yxn h]; rfl
theorem zi (h : n <= 9223372036854775807) (k : Option R) : zk n k = k := by
 unfold zk; rw [ke.mpr h]; rfl
theorem xS {n m nb : Nat} (h : (n + m) * nb <= 140737488355328) (k : Unit -> Option R) : qL n m nb k = k () := by
 unfold qL; rw [ke.mpr h]; rfl
theorem z3j {a b : List Int} (h : a.length + b.length <= 9223372036854775807) (k : Unit -> Option R) : z5l a b k = k () := by
 unfold z5l; rw [ke.mpr h]; rfl
theorem yvf {n : Int} {nb : Nat} (h0 : 0 <= n) (h : nb * n <= 281474976710656) (k : Option R) : y0h n nb k = k := by
 unfold y0h; rw [z3g h0, z3g h]; rfl
variable {i : Nat}
theorem zy0 {α : Type} {l : List α} : yn l (i : Int) = l[i]? := by
 unfold yn; rw [z3g (Int.natCast_nonneg i)]; simp
theorem z3l {α : Type} {l : List α} (h : i < l.length) : yn l (i : Int) = some l[i] := by
 rw [zy0, kE h]
theorem qG {l h : Int} (hh : 0 <= l /\ l <= h /\ h <= n) : zV l h n = true := by
 unfold zV; rw [z3g hh.1, z3g hh.2.1, z3g hh.2.2]; rfl
theorem yx {R α : Type} (l : List α) (k : List α -> Option R) : yf l 0 l.length k = k l := z4h l _ rfl k
theorem yt2 {S X : Type} (F : S -> Option (S ⊕ X)) (n : Nat) (st : Nat -> S) (p : Nat -> Bool) (yes no : X) (last : F (st n) = some (.inr no))
  (step : ∀ i, i < n -> F (st i) = some (if p i = true then .inr yes else .inl (st (i + 1)))) : zb F (st 0) = some (if (kr n).any p = true then yes else no) := by
 have key : ∀ k i, i + k = n -> zb F (st i) = some (if ((kr n).drop i).any p = true then yes else no) := by
  intro k
  induction k with
  | zero =>
   intro i h;rw [show i = n by omega, zL, last, List.drop_eq_nil_of_le (by simp)]; rfl
  | succ k ih =>
   intro i h;have hi : i < (kr n).length := by simp; omega
   rw [zL, step i (by omega), List.drop_eq_getElem_cons hi, List.getElem_range, List.any_cons]
   cases hp : p i with
   | true => rfl
   | false =>
    simp only [Bool.false_eq_true, if_false, Bool.false_or];exact ih (i + 1) (by omega)
 simpa using key n 0 (by omega)
theorem yr5 {α : Type} (l : List α) (p : α -> Bool) (q : Nat -> Bool) (h : ∀ i (hi : i < l.length), q i = p l[i]) : (kr l.length).any q = l.any p := by
 rw [Bool.eq_iff_iff, List.any_eq_true, List.any_eq_true];constructor
 ·rintro ⟨i, hi, hq⟩;have hi := List.mem_range.1 hi;exact ⟨l[i], kY hi, by rw [<- h i hi]; exact hq⟩
 ·rintro ⟨x, hx, hp⟩;obtain ⟨i, hi, rfl⟩ := List.mem_iff_getElem.1 hx;exact ⟨i, List.mem_range.2 hi, by rw [h i hi]; exact hp⟩
theorem y4t {S X α : Type} (F : S -> Option (S ⊕ X)) (l : List α) (st : Nat -> S) (p : α -> Bool) (yes no : X) (last : F (st l.length) = some (.inr no))
  (step : ∀ i (hi : i < l.length), F (st i) = some (if p l[i] = true then .inr yes else .inl (st (i + 1)))) : zb F (st 0) = some (if l.any p = true then yes else no) := by
 rw [<- yr5 l p (fun i => if h : i < l.length then p l[i] else false) fun i hi => by simp [hi]]
 refine yt2 F l.length st _ yes no last fun i hi => ?_
 rw [step i hi];simp only [dif_pos hi]
theorem z9m {S X A B : Type} (F : S -> Option (S ⊕ X)) (l : List B) (st : Nat -> A -> S) (fin : A -> X) (f : A -> B -> A) (I : Nat -> A -> Prop) (last : ∀ a, I l.length a -> F (st l.length a) = some (.inr (fin a)))
  (step : ∀ i a (hi : i < l.length), I i a -> F (st i a) = some (.inl (st (i + 1) (f a l[i]))) /\ I (i + 1) (f a l[i])) {a : A} (h0 : I 0 a) : zb F (st 0 a) = some (fin (l.foldl f a)) /\ I l.length (l.foldl f a) := by
 have key : ∀ k i a, i + k = l.length -> I i a -> zb F (st i a) = some (fin ((l.drop i).foldl f a)) /\ I l.length ((l.drop i).foldl f a) := by
  intro k
  induction k with
  | zero =>
   intro i a h hI;rw [show i = l.length by omega] at hI ⊢
   rw [zL, last a hI, List.drop_length]; exact ⟨rfl, hI⟩
  | succ k ih =>
   intro i a h hI;have hi : i < l.length := by omega
   obtain ⟨h1, h2⟩ := step i a hi hI;rw [zL, h1, List.drop_eq_getElem_cons hi, List.foldl_cons];exact ih (i + 1) _ (by omega) h2
 simpa using key l.length 0 a (by omega) h0
theorem ze8 {a b : List Int} (h : a = b) : eqS a b = true := decide_eq_true h
theorem zv2 {a b : List Int} (h : ¬ a = b) : eqS a b = false := decide_eq_false h
def zgs {A B : Type} (F : (A -> Option B) -> A -> Option B) : Nat -> A -> Option B
 | 0 => fun _ => none
 | n + 1 => F (zgs F n)
open Classical in
noncomputable def y9y {A B : Type} (F : (A -> Option B) -> A -> Option B) (x : A) : Option B :=
 if h : ∃ n y, zgs F n x = some y then zgs F h.choose x else none
theorem yfi {A B : Type} {F : (A -> Option B) -> A -> Option B} {x : A} {y : B} (h : y9y F x = some y) : ∃ n, zgs F n x = some y := by
 unfold y9y at h;split at h
 ·exact ⟨_, h⟩
 ·cases h
def yh1 {A B : Type} (F : (A -> Option B) -> A -> Option B) : Prop := ∀ r r' : A -> Option B, (∀ x y, r x = some y -> r' x = some y) -> ∀ x y, F r x = some y -> F r' x = some y
theorem y01 {A B : Type} {F : (A -> Option B) -> A -> Option B} (hF : yh1 F) : ∀ {n m : Nat}, n <= m -> ∀ x y, zgs F n x = some y -> zgs F m x = some y
 | 0, _, _, _, _, h => by cases h
 | n + 1, 0, hle, _, _, _ => by omega
 | n + 1, m + 1, hle, x, y, h => hF _ _ (y01 hF (Nat.le_of_succ_le_succ hle)) x y h
theorem yw2 {A B : Type} {F : (A -> Option B) -> A -> Option B} (hF : yh1 F) {x : A} {y : B} (h : zgs F n x = some y) : y9y F x = some y := by
 unfold y9y;have hx : ∃ n y, zgs F n x = some y := ⟨n, y, h⟩;rw [dif_pos hx];obtain ⟨y', h'⟩ := hx.choose_spec;have a := y01 hF (Nat.le_max_left n hx.choose) x y h;have b := y01 hF (Nat.le_max_right n hx.choose) x y' h';rw [a] at b;cases b;exact h'
theorem yv8 (hc : z4i P S.f = true) (ho : ∀ (R : Type) (y : S.X.T) (k : Exit -> TS -> Option R), S.X.open' y k = k (S.X.at' y).1 (S.X.at' y).2) : FnOK P S fun _ => none :=
 ⟨hc, (fun _ _ h => by cases h), (fun _ _ h => by cases h), ho⟩
theorem yxe {F : (LT S.codes -> Option S.X.T) -> LT S.codes -> Option S.X.T} (hc : z4i P S.f = true) (hX : S.X.OK) (step : ∀ r, FnOK P S r -> FnOK P S (F r)) : FnOK P S (y9y F) := by
 have all : ∀ n, FnOK P S (zgs F n) := by
  intro n
  induction n with
  | zero => exact yv8 hc fun R y k => hX.open' R y k
  | succ n ih => exact step _ ih
 refine ⟨hc, fun x y h => ?_, fun x y h => ?_, fun R y k => hX.open' R y k⟩
 ·obtain ⟨n, hn⟩ := yfi h;exact (all n).ret x y hn
 ·obtain ⟨n, hn⟩ := yfi h;exact (all n).calls x y hn
variable {A : Type}
def Ok (x : Option A) (Q : A -> Prop) : Prop := ∃ a, x = some a /\ Q a
theorem qQ {a : A} {Q : A -> Prop} (h : Q a) : Ok (some a) Q := ⟨a, rfl, h⟩
theorem y6m {x : Option A} {Q R : A -> Prop} (h : Ok x R) (g : ∀ a, R a -> Q a) : Ok x Q := by
 obtain ⟨a, h1, h2⟩ := h;exact ⟨a, h1, g a h2⟩
theorem yvl {A B : Type} {x : Option A} {f : A -> Option B} {Q : B -> Prop} (h : Ok x fun a => Ok (f a) Q) : Ok (x.bind f) Q := by
 obtain ⟨a, h1, h2⟩ := h;rw [h1]; exact h2
theorem y6l {A B : Type} {x : Option A} {f : A -> Option B} {Q : B -> Prop} {R : A -> Prop} (h : Ok x R) (g : ∀ a, R a -> Ok (f a) Q) : Ok (x.bind f) Q := yvl (y6m h g)
theorem yxq {A B : Type} {x : Option A} {a : A} {f : A -> Option B} {Q : B -> Prop} (h : x = some a) (g : Ok (f a) Q) : Ok (x.bind f) Q := by rw [h]; exact g
theorem y6n {x y : Option A} {Q : A -> Prop} (h : Ok x Q) : Ok (bif true then x else y) Q := h
theorem zm5 {x y : Option A} {Q : A -> Prop} (h : Ok y Q) : Ok (bif false then x else y) Q := h
theorem y0l {a b : Int} {x y : Option A} {Q : A -> Prop} (h : a < b -> Ok x Q) (g : ¬ a < b -> Ok y Q) : Ok (bif ltI a b then x else y) Q := by
 by_cases e : a < b
 ·rw [zY e]; exact h e
 ·rw [zP e]; exact g e
theorem yx4 {a b : Int} {x y : Option A} {Q : A -> Prop} (h : a = b -> Ok x Q) (g : ¬ a = b -> Ok y Q) : Ok (bif eqI a b then x else y) Q := by
 by_cases e : a = b
 ·rw [ql e]; exact h e
 ·rw [z00 e]; exact g e
theorem yx2 {n m : Nat} {x y : Option A} {Q : A -> Prop} (e : n = m) (h : Ok x Q) : Ok (bif kM n m then x else y) Q := by rw [yxm e]; exact h
theorem yta {k : Option A} {Q : A -> Prop} (e : n <= 9223372036854775807) (h : Ok k Q) : Ok (zk n k) Q := by rw [zi e]; exact h
theorem yx1 {n m nb : Nat} {k : Unit -> Option A} {Q : A -> Prop} (e : (n + m) * nb <= 140737488355328) (h : Ok (k ()) Q) : Ok (qL n m nb k) Q := by rw [xS e]; exact h
theorem yx3 {a b : List Int} {k : Unit -> Option A} {Q : A -> Prop} (e : a.length + b.length <= 9223372036854775807) (h : Ok (k ()) Q) : Ok (z5l a b k) Q := by rw [z3j e]; exact h
theorem yx5 {A B : Type} {l : List B} {f : B -> Option A} {Q : A -> Prop} (e : i < l.length) (h : Ok (f l[i]) Q) : Ok ((yn l (i : Int)).bind f) Q := by rw [z3l e]; exact h
theorem yqh {A B C : Type} {y : A} {f : A -> Option C} {g : B -> Option C} {Q : C -> Prop} (h : Ok (f y) Q) : Ok (Sum.elim f g (Sum.inl y)) Q := h
theorem yj8 {A B C : Type} {y : B} {f : A -> Option C} {g : B -> Option C} {Q : C -> Prop} (h : Ok (g y) Q) : Ok (Sum.elim f g (Sum.inr y)) Q := h
theorem yve {A B : Type} {F : (A -> Option B) -> A -> Option B} (hF : yh1 F) {x : A} {Q : B -> Prop} (h : Ok (zgs F n x) Q) : Ok (y9y F x) Q := by
 obtain ⟨y, h1, h2⟩ := h;exact ⟨y, yw2 hF h1, h2⟩
def Rnd {S X : Type} (I : S -> Prop) (Q : X -> Prop) : S ⊕ X -> Prop
 | .inl s => I s
 | .inr x => Q x
theorem y6t {S X : Type} {I : S -> Prop} {Q : X -> Prop} {s : S} (h : I s) : Rnd I Q (.inl s : S ⊕ X) := h
theorem zeo {S X : Type} {I : S -> Prop} {Q : X -> Prop} {x : X} (h : Q x) : Rnd I Q (.inr x : S ⊕ X) := h
theorem yvm {S X : Type} {F : S -> Option (S ⊕ X)} {s : S} {Q : X -> Prop} (n : Nat) (I : Nat -> S -> Prop) (h0 : I 0 s)
  (step : ∀ i s, i <= n -> I i s -> Ok (F s) (Rnd (fun s' => i < n /\ I (i + 1) s') Q)) : Ok (zb F s) Q := by
 have key : ∀ k i s, i + k = n -> I i s -> Ok (zb F s) Q := by
  intro k
  induction k with
  | zero =>
   intro i s hi h;obtain ⟨r, h1, h2⟩ := step i s (by omega) h
   rw [zL, h1];cases r with
   | inl s' => have : i < n /\ I (i + 1) s' := h2; omega
   | inr x => exact ⟨x, rfl, h2⟩
  | succ k ih =>
   intro i s hi h;obtain ⟨r, h1, h2⟩ := step i s (by omega) h
   rw [zL, h1];cases r with
   | inl s' => exact ih (i + 1) s' (by omega) h2.2
   | inr x => exact ⟨x, rfl, h2⟩
 exact key n 0 s (by omega) h0
theorem ybt {S X A : Type} {F : S -> Option (S ⊕ X)} {s : S} {Q : X -> Prop} (n : Nat) (st : Nat -> A -> S) (I : Nat -> A -> Prop) (a : A) (hs : s = st 0 a) (h0 : I 0 a)
  (last : ∀ a, I n a -> Ok (F (st n a)) (Rnd (fun _ => False) Q)) (step : ∀ i a, i < n -> I i a -> Ok (F (st i a)) (Rnd (fun s' => ∃ a', s' = st (i + 1) a' /\ I (i + 1) a') Q)) : Ok (zb F s) Q := by
 subst hs;refine yvm n (fun i s => ∃ a, s = st i a /\ I i a) ⟨a, rfl, h0⟩ fun i s hi ⟨a, e, hI⟩ => ?_
 subst e
 by_cases hn : i = n
 ·subst hn;refine y6m (last a hI) fun r hr => ?_
  cases r with
  | inl s' => exact hr.elim
  | inr x => exact hr
 ·refine y6m (step i a (by omega) hI) fun r hr => ?_
  cases r with
  | inl s' => exact ⟨by omega, hr⟩
  | inr x => exact hr
theorem jh (h : n < 9223372036854775807) : W64 ((n : Int) + 1) = ((n + 1 : Nat) : Int) := by rw [zo (by omega)]; rfl
theorem qs {k : Option A} {Q : A -> Prop} (h : Ok k Q) (e : n <= 9223372036854775807 := by omega) : Ok (zk n k) Q := yta e h
theorem qb {n m : Nat} {x y : Option A} {Q : A -> Prop} (h : Ok x Q) (e : n = m := by first | rfl | omega | (simp only [List.length_set, List.length_append, List.length_cons, List.length_nil, List.length_replicate, List.length_take, List.length_drop, List.length_map, Int.toNat_natCast] <;> omega)) : Ok (bif Nat.beq n m then x else y) Q := yx2 e h
theorem qa {n m nb : Nat} {k : Unit -> Option A} {Q : A -> Prop} (h : Ok (k ()) Q) (e : (n + m) * nb <= 140737488355328 := by first | omega | (simp only [List.length_set, List.length_append, List.length_cons, List.length_nil, List.length_replicate, List.length_take, List.length_drop, List.length_map, Int.toNat_natCast] <;> omega)) : Ok (qL n m nb k) Q := yx1 e h
theorem qc {a b : List Int} {k : Unit -> Option A} {Q : A -> Prop} (h : Ok (k ()) Q) (e : a.length + b.length <= 9223372036854775807 := by first | omega | (simp only [List.length_set, List.length_append, List.length_cons, List.length_nil, List.length_replicate, List.length_take, List.length_drop, List.length_map, Int.toNat_natCast] <;> omega)) : Ok (z5l a b k) Q := yx3 e h
theorem qx {A B : Type} {l : List B} {f : B -> Option A} {Q : A -> Prop} (e : i < l.length := by first | omega | (simp only [List.length_set, List.length_append, List.length_cons, List.length_nil, List.length_replicate, List.length_take, List.length_drop, List.length_map, Int.toNat_natCast] <;> omega)) (h : Ok (f l[i]) Q) : Ok ((yn l (i : Int)).bind f) Q := yx5 e h
end Go.Tm
