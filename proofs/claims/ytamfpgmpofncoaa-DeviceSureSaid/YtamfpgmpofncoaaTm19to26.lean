import Derived.Test.YtamfpgmpofncoaaTm14to18
import Derived.Test.YtamfpgmpofncoaaAb27toP
import Derived.RangeFuncRecord
import Derived.Test.YtamfpgmpofncoaaAb8to15
open List renaming length → kA, getElem?_map → kB, getElem?_eq_getElem → kD, mem_of_getElem? → kE, length_map → kF, mem_iff_getElem? → kG, eq_nil_of_length_eq_zero → kK, mem_cons → kL, getElem?_eq_some_iff → kM, getElem_mem → kQ
open Bool renaming and_eq_true → kC
open Nat renaming eq_of_beq_eq_true → kH, blt → kJ, beq → kN, le_of_ble_eq_true → kO, blt_eq → kP, beq_refl → kR, ble → kS
open Option renaming map_some → kI
set_option linter.unusedSimpArgs false
set_option linter.unusedVariables false
namespace Go.Tm
open Go.Ab
def z2x : List TV -> Nat -> List (Nat × TV)
 | [], _ => []
 | p :: ps, i => (i, p) :: z2x ps (i + 1)
variable {R : Type}
def zoy (P : Program) (σ : TS) (v : ResultVar) (k : TV -> Option R) : Option R :=
 match v with
 | .tmp t => k (σ.get t)
 | .cell a t => zg2 P σ.H t (σ.get a) k
def zgh {R : Type} (P : Program) (σ : TS) : List ResultVar -> (List TV -> Option R) -> Option R
 | [], k => k []
 | v :: vs, k => zoy P σ v fun t => zgh P σ vs fun ts => k (t :: ts)
def zhp (P : Program) (fn : Func) (σ : TS) (k : TV -> Option R) : Option R :=
 zgh P σ fn.results.toList fun ts => match ts with
  | [t] => k t
  | ts => k (.tup ts)
def qi : Code -> List Nat -> Code
 | c, [] => c
 | .seq a _, 0 :: p => qi a p
 | .seq _ b, _ :: p => qi b p
 | .cond _ a _, 0 :: p => qi a p
 | .cond _ _ b, _ :: p => qi b p
 | .block _ x, _ :: p => qi x p
 | .scope x, _ :: p => qi x p
 | .loop x, _ :: p => qi x p
 | .rangeFunc _ _ x _, 0 :: p => qi x p
 | .rangeFunc _ _ _ y, _ :: p => qi y p
 | c, _ => c
def qj (fn : Func) : Code := fn.body.getD .skip
theorem zr0 {P : Program} {σ : TS} (hw : σ.wf) {v : ResultVar} {k : TV -> Option R} {r : R} (h : zoy P σ v k = some r) : ∃ q, k q = some r /\ q.wf /\ zh1 P σ.flat v q.pv := by
 cases v with
 | tmp t => exact ⟨_, h, z78 hw t, z2p σ t⟩
 | cell a t =>
  simp only [zoy] at h;obtain ⟨q, h1, h2, h3⟩ := zia hw (z78 hw a) h;exact ⟨q, h1, h2, _, z2p σ a, h3 σ.flat.H fun _ _ => rfl⟩
theorem zif {R : Type} {P : Program} {σ : TS} (hw : σ.wf) : ∀ {vs : List ResultVar} {k : List TV -> Option R} {r : R}, zgh P σ vs k = some r ->
  ∃ qs, k qs = some r /\ vs.length = qs.length /\ (∀ q, q ∈ qs -> q.wf) /\ ∀ (i : Nat) v q, vs[i]? = some v -> qs[i]? = some q -> zh1 P σ.flat v q.pv
 | [], k, r, h => ⟨[], by simpa only [zgh] using h, rfl, fun q hq => (by cases hq), fun i v q hv => by simp at hv⟩
 | v :: vs, k, r, h => by
  simp only [zgh] at h;obtain ⟨q, h1, h2, h3⟩ := zr0 hw h;obtain ⟨qs, g1, g2, g3, g4⟩ := zif hw h1;refine ⟨q :: qs, g1, by simp [g2], fun x hx => ?_, fun i v' q' hv hq => ?_⟩
  ·rcases kL.1 hx with rfl | hx
   ·exact h2
   ·exact g3 x hx
  ·cases i with
   | zero => simp at hv hq; subst hv; subst hq; exact h3
   | succ i => exact g4 i v' q' (by simpa using hv) (by simpa using hq)
theorem zt1 {P : Program} {fn : Func} {σ : TS} (hw : σ.wf) {k : TV -> Option R} {r : R} (h : zhp P fn σ k = some r) : ∃ q, k q = some r /\ q.wf /\ znh P fn σ.flat q.pv := by
 unfold zhp at h;obtain ⟨qs, h1, h2, h3, h4⟩ := zif hw h;split at h1
 ·rename_i q;obtain ⟨v, hv⟩ := List.length_eq_one_iff.1 h2;exact ⟨q, h1, h3 q (by simp), zug (r := v) (xN hv) (h4 0 v q (by rw [hv]; rfl) rfl)⟩
 ·rename_i hne;refine ⟨_, h1, by simp only [TV.wf]; exact xm.2 h3, ?_⟩
  simp only [TV.pv];refine zt0 (by rw [xl]; simpa using h2) (fun e => ?_) (fun i v p hv hp => ?_)
  ·rw [xl, kF] at e;obtain ⟨q, rfl⟩ := List.length_eq_one_iff.1 e;exact hne q rfl
  ·rw [xl, kB] at hp;cases hq : qs[i]? with
   | none => rw [hq] at hp; cases hp
   | some q => rw [hq] at hp; simp at hp; subst hp; exact h4 i v q hv hq
theorem zbd : ∀ (ts : List TV) (i : Nat), (z2x ts i).map (fun x => (x.1, x.2.pv)) = z47 (ts.map TV.pv) i
 | [], _ => rfl
 | t :: ts, i => by simp only [z2x, List.map_cons, z47, zbd ts (i + 1)]
theorem zbr : ∀ {ts : List TV} {i : Nat} {x : Nat × TV}, x ∈ z2x ts i -> x.2 ∈ ts
 | [], _, _, h => by cases h
 | t :: ts, i, x, h => by
  simp only [z2x, kL] at h;rcases h with rfl | h
  ·simp
  ·simp [zbr h]
theorem noncell {w : World} {c : Cx} {H : List AObj} {D : Nat} {o : Obj} (o' : Obj) (g : Ab.Good w c H []) (hn : ∀ off, w.cell? ⟨D, off, none⟩ = none) (hm : some D ∉ c.m) (hgb : gb <= D) :
  Sees w c (w.putObj D o') c /\ Ab.Good (w.putObj D o') c H [] := by
 have hT : c.T = [] := kK g.tl;have hne : ∀ b k : Nat, c.m[b]? = some (some k) -> k ≠ D := fun b k h e => hm (e ▸ kE h)
 have x : Sees w c (w.putObj D o') c := by
  refine ⟨fun _ _ h => h, hT, fun a n hf => ?_, fun a n i v hf hi hv => ?_, fun b k vs e fr h hh => ⟨vs, fr, (World.putObj_heap_other (hne b k h)).trans hh, rfl⟩⟩
  ·rcases hf with hf | ⟨h1, h2, h3, h4, h5⟩
   ·exact .inl hf
   ·exact .inr ⟨h1, by simpa using h2, h3, h4, h5⟩
  ·by_cases e : a.block = D
   ·rw [e] at hv; rw [hn] at hv; cases hv
   ·have : (w.putObj D o').cell? ⟨a.block, a.off + i, none⟩ = w.cell? ⟨a.block, a.off + i, none⟩ := qy (World.putObj_heap_other e);rw [this]; exact hv
 refine ⟨x, ⟨g.len, g.inj, fun b o ho => ?_, g.tl, g.tal, g.tdead, fun i k j h => by rw [hT] at h; simp at h, g.tinj, fun k e hk => g.okn k e (by simpa using hk), g.okm, g.okt, g.oko,
  ⟨by simpa using g.gl.sz, g.gl.m, g.gl.T, Glob.stay (fun k hk => World.putObj_heap_other (by omega)) g.gl.var⟩⟩⟩
 exact (g.obj b o ho).see id (fun k h1 => ⟨h1, World.putObj_heap_other (hne b k h1)⟩) fun cs _ => VRs.sees x cs fun _ _ _ e => e
theorem zez {w : World} {D : Nat} {ds : Option (List Deferred)} (h : w.heap[D]? = some (.deferred ds)) (off : Nat) : w.cell? ⟨D, off, none⟩ = none := by
 simp [World.cell?, h]
theorem zh9 {p D : Nat} {w w' : World} {c c' : Cx} {o' : Obj} (x : ExtP p w c w' c') (hD : w.heap.size <= D) : ExtP p w c (w'.putObj D o') c' where
 os := x.os
 tape := x.tape
 output := x.output
 size := by simpa using x.size
 new := x.new
 blocks := fun k hk hm => (World.putObj_heap_other (by omega)).trans (x.blocks k hk hm)
 ok := x.ok
 pn := x.pn
 pin := x.pin
 room := fun k vs e fr h => by
  obtain ⟨vs', fr', h1, h2⟩ := x.room k vs e fr h;have hlt : k < w.heap.size := (Array.getElem?_eq_some_iff.1 h).1;exact ⟨vs', fr', (World.putObj_heap_other (by omega)).trans h1, h2⟩
theorem RelT.noncell {w : World} {c : Cx} {σ : TS} {a : Act} {D : Nat} {ds : Option (List Deferred)} (o' : Obj) (hr : RelT w c σ a) (h : w.heap[D]? = some (.deferred ds)) (hm : some D ∉ c.m) (hgb : gb <= D) : RelT (w.putObj D o') c σ a := by
 obtain ⟨x, g⟩ := Tm.noncell (o := .deferred ds) o' hr.2.1 (zez h) hm hgb;exact ⟨hr.1, g, hr.2.2.1, fun t p hl ht => by
  obtain ⟨v, h1, h2⟩ := hr.2.2.2 t p hl ht;exact ⟨v, h1, VR.sees x _ h2⟩⟩
theorem zck {P : Program} {func : Func} {w : World} {c c' : Cx} {R : Ending -> World -> Prop} {σ : TS} {a : Act} {p : Nat} (hgb : gb <= w.heap.size) : ∀ {l : List Nat} {w' : World}, l.Nodup -> (∀ D, D ∈ l -> w.heap.size <= D /\ w'.heap[D]? = some (.deferred (some [])) /\ some D ∉ c'.m) ->
  RelT w' c' σ a -> ExtP p w c w' c' -> (∀ w2, RelT w2 c' σ a -> ExtP p w c w2 c' -> ∃ v, (results func a.tmps).run P w2 = .ok v w2 /\ R (.returned v) w2) ->
  LeavesInM (Wd none) 0 P func a.tmps R (l.map z91 ++ []) .returning w'
 | [], w', _, _, hr, x, h => h w' hr x
 | D :: l, w', hn, hl, hr, x, h => by
  obtain ⟨g1, g2, g3⟩ := hl D (by simp)
  refine ⟨by simp, .inl ⟨D, _, rfl, run_takeDeferred g2, zck hgb (List.nodup_cons.1 hn).2 (fun E hE => ?_) (hr.noncell _ g2 g3 (Nat.le_trans hgb g1)) (zh9 x g1) h⟩⟩
  obtain ⟨k1, k2, k3⟩ := hl E (by simp [hE])
  exact ⟨k1, (World.putObj_heap_other (fun e : E = D => (List.nodup_cons.1 hn).1 (by rw [<- e]; exact hE))).trans k2, k3⟩
def zfv (fn : Func) (S : Sig) (x : LT S.codes) : TS := ⟨kA (S.args x) + (fn.ntmps - kA (S.args x)), z2x (S.args x) 0, S.heap x, S.pn⟩
noncomputable def fnK (P : Program) (V : Env) (fn : Func) (h : HT) (S : Sig) (x : LT S.codes) : Option S.X.T :=
 match fn.body with
 | some c => zt P V c h (zfv fn S x) fun e σ => match e with
  | .normal | .ret => zhp P fn σ fun t => S.X.close .ret ⟨1, [(0, t)], σ.H, σ.p⟩ some
  | _ => none
 | none => none
def zut (P : Program) (fn : Func) (h : HT) : Prop := HOK P (qj fn) h
theorem zsz {σ : TS} (hw : σ.wf) : (z1s σ).wf := by
 unfold z1s;cases h : yn σ.slots 0 with
 | none => exact z4q
 | some t =>
  obtain ⟨z, h1, h2⟩ := z3b h;rw [<- h2];exact hw.slots z h1
theorem jH {P : Program} {V : Env} (hV : EnvsOK P V) {S : Sig} {func : Func} {h : HT} {fn : LT S.codes -> Option S.X.T} (hfun : P.funcs[S.f]? = some func) (hh : zut P func h) (hc : z0n P S.f = true) (hX : S.X.OK)
  (hfn : ∀ x, fnK P V func h S x = fn x) : FnOK P S fn := by
 have body : ∀ x y, fn x = some y -> ∃ c, func.body = some c /\ HOK P c h /\ (zt P V c h (zfv func S x) fun e σ => match e with
  | .normal | .ret => zhp P func σ fun t => S.X.close .ret ⟨1, [(0, t)], σ.H, σ.p⟩ some
  | _ => none) = some y := by
  intro x y hy;rw [<- hfn x] at hy;unfold fnK at hy;split at hy
  ·rename_i c hb;have : HOK P c h := by have := hh; unfold zut qj at this; rw [hb] at this; exact this
   exact ⟨c, hb, this, hy⟩
  ·cases hy
 have init : ∀ x, (∀ t, t ∈ S.args x -> t.wf) -> (∀ o, o ∈ S.heap x -> o.wf) -> (zfv func S x).wf := fun x ha ho => ⟨fun z hz => ha _ (zbr hz), ho⟩
 have post : ∀ y e σ', σ'.wf -> (match e, σ' with | Exit.normal, σ' | Exit.ret, σ' => zhp P func σ' fun t => S.X.close .ret ⟨1, [(0, t)], σ'.H, σ'.p⟩ some | _, _ => none) = some y ->
   (e = .normal \/ e = .ret) /\ ∃ q, q.wf /\ znh P func σ'.flat q.pv /\ Wk ⟨1, [(0, q)], σ'.H, σ'.p⟩ (S.X.at' y).2 := by
  intro y e σ' hwσ he;have : (e = .normal \/ e = .ret) /\ (zhp P func σ' fun t => S.X.close .ret ⟨1, [(0, t)], σ'.H, σ'.p⟩ some) = some y := by
   cases e <;> first | (cases he; done) | exact ⟨.inl rfl, he⟩ | exact ⟨.inr rfl, he⟩
  obtain ⟨h5, h6⟩ := this;obtain ⟨q, q1, q2, q3⟩ := zt1 hwσ h6;obtain ⟨y', p1, _, p2⟩ := hX.close _ _ ⟨1, [(0, q)], σ'.H, σ'.p⟩ some y ⟨fun z hz => by rcases List.mem_singleton.1 hz with rfl; exact q2, hwσ.H⟩ q1
  cases p1;exact ⟨h5, q, q2, q3, p2⟩
 refine ⟨hc, fun x y hy ha ho => ?_, fun x y hy ha ho => ?_, fun R y k => hX.open' R y k⟩
 ·obtain ⟨c, hb, hok, hev⟩ := body x y hy;obtain ⟨e, σ', hw', he⟩ := zkg hV c h hok (init x ha ho) hev;obtain ⟨_, q, _, _, hk⟩ := post y e σ' hw' (by revert he; cases e <;> exact id)
  exact ⟨zsz hk.1, hk.1.H⟩
 ·obtain ⟨c, hb, hok, hev⟩ := body x y hy;have ht := z83 hV c h hok hev;intro w cx vs g hpn hsz hv;rw [kF] at hsz;refine (callsIn_wide (n := 0)).1 (callsIn_of_wp_marks (F := Wd none) hfun hb trivial (ht cx _ w _ ⟨hpn, g, ?_⟩ (init x ha ho) ?_ none trivial))
  ·refine ⟨by simp [hsz, TS.flat, zfv], fun t p hl hlt => ?_⟩
   simp only [TS.flat, zfv, zbd] at hl;obtain ⟨_, h2⟩ := zbj _ 0 t p hl;simp only [Nat.sub_zero] at h2;obtain ⟨v, h3, h4⟩ := zo hv h2;have hlt' : t < vs.size := by rw [hsz]; have := (kM.1 h2).1; simpa using this
   exact ⟨v, by rw [Array.getElem?_append_left hlt']; exact h3, h4⟩
  ·intro e c' a' w' σ' hQ hw' hr' hx hd;obtain ⟨he, q, hq, hres, hk⟩ := post y e σ' hw' (by revert hQ; cases e <;> exact id)
   obtain ⟨l, hl1, hl2, hl3⟩ := hd;have fin : LeavesInM (Wd none) 0 P func a'.tmps (fun e w'' => ∃ v p H' c', e = .returned v /\ (p = (z1s (S.X.at' y).2).pv /\ H' = (S.X.at' y).2.H.map TOb.flat) /\ Ab.Good w'' c' H' [] /\ VR w'' c' p v /\ ExtP S.pn w cx w'' c') a'.defers .returning w' := by
    rw [hl1];refine zck (p := σ'.p) (c := cx) g.gl.sz hl2 hl3 hr' ?_ fun w2 hr2 hx2 => ?_
    ·have e2 : σ'.p = S.pn := by rw [<- hr'.1, hx.pn, hpn]
     rw [e2]; exact hx
    obtain ⟨v, h1, h2⟩ := hres w2 c' a' hr2.2.1 hr2.2.2;have hr1 : RelT w2 c' ⟨1, [(0, q)], σ'.H, σ'.p⟩ { a' with tmps := #[v] } := by
     refine ⟨hr2.1, hr2.2.1, rfl, fun t p hl hlt => ?_⟩
     have : t = 0 := by
      have : t < 1 := hlt;omega
     subst this;simp only [TS.flat, List.map_cons, List.map_nil, Ab.look, kR, cond_true, Option.some.injEq] at hl;subst hl;exact ⟨v, rfl, h2⟩
    obtain ⟨c2, hr3, hx3⟩ := hk.2 w2 c' _ hr1;have hxp : ExtP S.pn w cx w2 c2 := by
     have e2 : σ'.p = S.pn := by rw [<- hr'.1, hx.pn, hpn]
     have := hx3 w cx hx2;rw [show TS.p ⟨1, [(0, q)], σ'.H, σ'.p⟩ = S.pn from e2] at this
     exact this
    have hv2 : VR w2 c2 (z1s (S.X.at' y).2).pv v := by
     unfold z1s;cases hl : yn (S.X.at' y).2.slots 0 with
     | none => simp only [Option.getD_none, TV.pv, VR]
     | some t =>
      have hsz2 := hr3.2.2.1;have hl2 : Ab.look (S.X.at' y).2.flat.slots 0 = some t.pv := by
       simp only [TS.flat, vC, hl, kI]
      obtain ⟨v', g1, g2⟩ := hr3.2.2.2 0 _ hl2 (by rw [<- hsz2]; exact Nat.one_pos)
      simp only [List.getElem?_toArray, List.getElem?_cons_zero, Option.some.injEq] at g1;subst g1;exact g2
    exact ⟨v, h1, v, _, _, c2, rfl, ⟨rfl, rfl⟩, hr3.2.1, hv2, hxp⟩
   rcases he with rfl | rfl
   ·exact fin
   ·exact fin
end Go.Tm
namespace Go.Ab
theorem zrt {w w' : World} {c c' : Cx} {H H' : List AObj} (g : Good w c H []) {pn : Nat} {ρ : List Nat} (hh : Hand c H.length pn ρ) (g' : Good w' c' H' []) (x : ExtP pn w (xC w c pn ρ) w' c') : ExtP c.pn w c w' (zO c c' H.length pn ρ) := by
 have ids : ∀ j k : Nat, c'.m[j]? = some (some k) -> (∃ i b : Nat, ρ[i]? = some b /\ c.m[b]? = some (some k)) \/ w.heap.size <= k := fun j k h => by
  rcases x.new k (kG.2 ⟨j, h⟩) with h | h
  ·exact .inl (z01 h)
  ·exact .inr h
 have hm3 : ∀ k : Nat, some k ∈ (zO c c' H.length pn ρ).m -> some k ∈ c.m \/ w.heap.size <= k := fun k hk => by
  obtain ⟨b, hb⟩ := kG.1 hk;have key : ∀ j : Nat, c'.m[j]? = some (some k) -> some k ∈ c.m \/ w.heap.size <= k := fun j h => by
   rcases ids j k h with ⟨i, b', _, h2⟩ | h
   ·exact .inl (kG.2 ⟨b', h2⟩)
   ·exact .inr h
  rcases z2n hb with ⟨_, j, _, _, h⟩ | ⟨_, _, h⟩ | ⟨_, h⟩
  ·exact key j h
  ·exact .inl (kG.2 ⟨b, h⟩)
  ·exact key _ h
 refine ⟨x.os, x.tape, x.output, x.size, hm3, fun k hk hm => x.blocks k hk fun h => ?_, rfl, rfl, fun b k hb hk => ?_, x.room⟩
 ·obtain ⟨j, b, _, h2⟩ := z01 h;exact hm (kG.2 ⟨b, h2⟩)
 ·have hbl : b < H.length := by rw [<- g.len]; exact (kM.1 hk).1
  rw [z0l hbl];cases hp : ji ρ b with
  | some j =>
   have hj := jJ hp
   by_cases hlt : j < pn
   ·simp only [if_pos hlt, x.pin j k hlt (z0z hj hk), Option.join_some]
   ·have := hh.own j b (by omega) hj; omega
  | none => simp only [hk, Option.join_some]
end Go.Ab
set_option linter.unusedSimpArgs false
set_option linter.unusedVariables false
namespace Go.Tm
open Go.Ab
def jq : List Nat -> Nat -> Nat -> Option Nat
 | [], _, _ => none
 | b' :: r, b, j => bif kN b' b then some j else jq r b (j + 1)
theorem z8d : ∀ (ρ : List Nat) (b j : Nat), jq ρ b j = (jq ρ b 0).map (· + j)
 | [], _, _ => rfl
 | b' :: r, b, j => by
  simp only [jq];cases kN b' b with
  | true => simp
  | false =>
   simp only [cond_false];rw [z8d r b (j + 1), z8d r b (0 + 1), Option.map_map];congr 1;funext x;simp only [Function.comp]; omega
theorem z3c {ρ : List Nat} {b j : Nat} (h : jq ρ b 0 = some j) : ρ[j]? = some b := by
 induction ρ generalizing j with
 | nil => cases h
 | cons b' r ih =>
  simp only [jq] at h;cases hb : kN b' b with
  | true =>
   rw [hb] at h;cases h;rw [kH hb]; rfl
  | false =>
   rw [hb] at h;simp only [cond_false] at h;rw [z8d] at h;cases hp : jq r b 0 with
   | none => rw [hp] at h; cases h
   | some i =>
    rw [hp] at h;simp at h;subst h;simpa using ih hp
theorem zcw {ρ : List Nat} {b : Nat} (h : jq ρ b 0 = none) : ∀ j : Nat, ρ[j]? ≠ some b := by
 induction ρ with
 | nil => intro j hj; simp at hj
 | cons b' r ih =>
  simp only [jq] at h;cases hb : kN b' b with
  | true => rw [hb] at h; cases h
  | false =>
   rw [hb] at h;simp only [cond_false] at h;rw [z8d] at h;intro j hj;cases j with
   | zero =>
    simp at hj;subst hj;rw [kR] at hb; cases hb
   | succ j =>
    refine ih ?_ j (by simpa using hj)
    cases hp : jq r b 0 with
    | none => rfl
    | some i => rw [hp] at h; cases h
def z82 : List Nat -> Bool
 | [] => true
 | b :: r => !z17 r b && z82 r
theorem z9g : ∀ {ρ : List Nat}, z82 ρ = true -> ∀ i j b : Nat, ρ[i]? = some b -> ρ[j]? = some b -> i = j
 | [], _, i, j, b, h, _ => by simp at h
 | b' :: r, h, i, j, b, hi, hj => by
  simp only [z82, kC, Bool.not_eq_true'] at h;have hno : b' ∉ r := fun hm => by rw [zex.2 hm] at h; cases h.1
  cases i with
  | zero =>
   simp at hi; subst hi;cases j with
   | zero => rfl
   | succ j => exact absurd (kE (by simpa using hj)) hno
  | succ i =>
   cases j with
   | zero =>
    simp at hj; subst hj;exact absurd (kE (by simpa using hi)) hno
   | succ j => rw [z9g h.2 i j b (by simpa using hi) (by simpa using hj)]
def geL (p : Nat) : List Nat -> Bool
 | [] => true
 | b :: L => kS p b && geL p L
theorem zko {p : Nat} : ∀ {L : List Nat}, geL p L = true -> ∀ b, b ∈ L -> p <= b
 | [], _, b, hb => by cases hb
 | a :: L, h, b, hb => by
  simp only [geL, kC] at h;rcases kL.1 hb with rfl | hb
  ·exact kO h.1
  ·exact zko h.2 b hb
def zcb (n p pn : Nat) (ρ : List Nat) : Bool := z98 n ρ && z82 ρ && geL p (ρ.drop pn) && kS pn (kA ρ)
variable {c : Cx}
theorem zi8 {n p pn : Nat} {ρ : List Nat} (h : zcb n p pn ρ = true) (hp : c.pn = p) : Hand c n pn ρ := by
 simp only [zcb, kC] at h;obtain ⟨⟨⟨h1, h2⟩, h3⟩, h4⟩ := h;refine ⟨fun j b hj => z8k h1 b (kE hj), z9g h2, fun j b hj hb => ?_, kO h4⟩
 rw [hp];refine zko h3 b (kE (i := j - pn) ?_);rw [List.getElem?_drop, show pn + (j - pn) = j by omega]; exact hb
def z1i (ρ : List Nat) (b : Nat) : Fate :=
 match jq ρ b 0 with
 | some j => .to j
 | none => .gone
theorem zal (ρ : List Nat) (b : Nat) (o : Ob) : z1i ρ b ≠ .fz o := by
 unfold z1i;cases jq ρ b 0 <;> simp
theorem zo9 {ρ : List Nat} {b j : Nat} (h : (z1i ρ b).name = some j) : ρ[j]? = some b := by
 unfold z1i at h;cases hp : jq ρ b 0 with
 | none => rw [hp] at h; cases h
 | some i =>
  rw [hp] at h;simp only [Fate.name, Option.some.injEq] at h;subst h;exact z3c hp
theorem zkq {w : World} {H : List AObj} (g : Ab.Good w c H []) (pn : Nat) (ρ : List Nat) : MvH (z1i ρ) w c w (xC w c pn ρ) :=
 ⟨zu3 g fun b j h => zo9 h, fun b o h => absurd h (zal ρ b o), fun b o k h => absurd h (zal ρ b o)⟩
theorem zq9 {w : World} {H : List TOb} (hw : ∀ o, o ∈ H -> o.wf) (g : Ab.Good w c (H.map TOb.flat) []) {pn : Nat} {ρ : List Nat} (hh : Hand c (H.map TOb.flat).length pn ρ) {hs : List HPat} (hl : hs.length = ρ.length) :
  Ab.Good w (xC w c pn ρ) ((jo (z1i ρ) H hs (ρ.map some)).map TOb.flat) [] := by
 have M := zkq g pn ρ;refine zq8 g hh (by rw [kF, zap (by simpa using hl), kF]) fun j b o hj ho => ?_
 simp only [kB] at ho;cases hq : (jo (z1i ρ) H hs (ρ.map some))[j]? with
 | none => rw [hq] at ho; cases ho
 | some q =>
  rw [hq] at ho;simp only [kI, Option.some.injEq] at ho;subst ho;have hlt := hh.lt j b hj;rw [kF] at hlt;rcases z4i hq with ⟨h1, _⟩ | ⟨b', h1, h2⟩
  ·rw [kB, hj] at h1; cases h1
  ·rw [kB, hj] at h1;cases h1;rcases h2 with ⟨e, t, h2, rfl⟩ | ⟨e, u, l, h2, rfl⟩ | ⟨h2, rfl⟩
   ·have hwt := hw _ (kE h2);have m := vc M t hwt.1;exact .inr ⟨t.cells, e, _, by rw [kB, h2]; rfl, rfl, m.len, m.leafs (xh hwt.1 hwt.2), fun fv hf => m.cells fv hf⟩
   ·have hwt := hw _ (kE h2);exact .inr ⟨zj u l, e, _, by rw [kB, h2]; rfl, rfl, rfl, yQ hwt, fun fv hf => VRs.transfer (fun a n h => M.base.foot a n h) _ (xT hwt) hf⟩
   ·rcases h2 with h2 | h2
    ·have := List.getElem?_eq_none_iff.1 h2; omega
    ·exact .inl ⟨by rw [kB, h2]; rfl, rfl⟩
def z2j (n pn : Nat) (ρ : List Nat) (j : Nat) : Fate := .to (bif kJ j pn then zhb ρ j else n + (j - pn))
def zaq (pn : Nat) (ρ : List Nat) (b : Nat) : Fate :=
 match jq ρ b 0 with
 | some j => bif kJ j pn then .to b else .gone
 | none => .to b
def z5c (n pn : Nat) (ρ : List Nat) (H' : List TOb) : List TOb -> Nat -> List TOb
 | [], _ => []
 | o :: r, b => (match jq ρ b 0 with
  | some j => bif kJ j pn then (match H'[j]? with
   | some o' => o'.mv (z2j n pn ρ)
   | none => .gone) else .gone
  | none => o.mv (zaq pn ρ)) :: z5c n pn ρ H' r (b + 1)
def z7z (pn : Nat) (ρ : List Nat) (H H' : List TOb) : List TOb := z5c (kA H) pn ρ H' H 0 ++ (H'.drop pn).map (TOb.mv (z2j (kA H) pn ρ))
def zjc (σ : TS) (pn : Nat) (ρ : List Nat) (H' : List TOb) : TS := ⟨σ.n, z4g (zaq pn ρ) σ.slots, z7z pn ρ σ.H H', σ.p⟩
theorem zar (n pn : Nat) (ρ : List Nat) (H' : List TOb) : ∀ (H : List TOb) (b0 i : Nat), (z5c n pn ρ H' H b0)[i]? = (H[i]?).map fun o => match jq ρ (b0 + i) 0 with
  | some j => bif kJ j pn then (match H'[j]? with
   | some o' => o'.mv (z2j n pn ρ)
   | none => .gone) else .gone
  | none => o.mv (zaq pn ρ)
 | [], _, i => by simp [z5c]
 | o :: r, b0, 0 => by simp [z5c]
 | o :: r, b0, i + 1 => by
  simp only [z5c, List.getElem?_cons_succ];rw [zar n pn ρ H' r (b0 + 1) i, show b0 + 1 + i = b0 + (i + 1) by omega]
theorem z3r (n pn : Nat) (ρ : List Nat) (H' : List TOb) : ∀ (H : List TOb) (b0 : Nat), (z5c n pn ρ H' H b0).length = H.length
 | [], _ => rfl
 | o :: r, b0 => by simp only [z5c, List.length_cons, z3r n pn ρ H' r]
theorem z6x (n pn : Nat) (ρ : List Nat) (b : Nat) (o : Ob) : z2j n pn ρ b ≠ .fz o := by simp [z2j]
theorem zdp (pn : Nat) (ρ : List Nat) (b : Nat) (o : Ob) : zaq pn ρ b ≠ .fz o := by
 unfold zaq;cases jq ρ b 0 with
 | none => simp
 | some j => cases hb : kJ j pn <;> simp [hb]
theorem zd8 {g : Nat -> Fate} (hg : ∀ b o, g b = .fz o -> o.wf) {o : TOb} (h : o.wf) : (o.mv g).wf := by
 cases o with
 | gone => trivial
 | ob e o =>
  cases o with
  | row u l => exact h
  | var t => exact ⟨(z50 hg t h.1).1, (z50 hg t h.1).2 h.2⟩
theorem zly {g : Nat -> Fate} {w w' : World} {c c' : Cx} (M : MvH g w c w' c') {o : TOb} (h : o.wf) :
  (o.flat = .gone /\ (o.mv g).flat = .gone) \/ ∃ cs e cs2, o.flat = .row cs e /\ (o.mv g).flat = .row cs2 e /\ cs2.length = cs.length /\ zd cs2 /\ ∀ fv, VRs w c cs fv -> VRs w' c' cs2 fv := by
 cases o with
 | gone => exact .inl ⟨rfl, rfl⟩
 | ob e o =>
  cases o with
  | row u l => exact .inr ⟨zj u l, e, zj u l, rfl, rfl, rfl, yQ h, fun fv hf => by
   have := VRs.move M.base _ (g' := fv) (fun _ _ _ h => h) hf
   rw [xR (xT h)] at this;exact this⟩
  | var t =>
   have m := vc M t h.1;exact .inr ⟨t.cells, e, (t.mv g).cells, rfl, rfl, m.len, m.leafs (xh h.1 h.2), fun fv hf => m.cells fv hf⟩
theorem znj (n pn : Nat) (ρ : List Nat) : (fun j => (z2j n pn ρ j).name) = fun j => some (za9 n pn ρ j) := by
 funext j;simp only [z2j, Fate.name, za9, Option.some.injEq]
 by_cases h : j < pn
 ·rw [kP.mpr h, if_pos h]; simp only [cond_true, zn1, List.getD_eq_getElem?_getD]
 ·have : kJ j pn = false := by
   cases hb : kJ j pn with
   | false => rfl
   | true => exact absurd (kP.mp hb) h
  rw [this, if_neg h]; rfl
theorem zu9 {ρ : List Nat} (hinj : ∀ i j b : Nat, ρ[i]? = some b -> ρ[j]? = some b -> i = j) (b : Nat) : jq ρ b 0 = ji ρ b := by
 cases h : jq ρ b 0 with
 | none =>
  cases h2 : ji ρ b with
  | none => rfl
  | some j => exact absurd (jJ h2) (zcw h j)
 | some i =>
  cases h2 : ji ρ b with
  | none => exact absurd (z3c h) (z6c h2 i)
  | some j => rw [hinj i j b (z3c h) (jJ h2)]
theorem zqi {pn : Nat} {ρ : List Nat} (hinj : ∀ i j b : Nat, ρ[i]? = some b -> ρ[j]? = some b -> i = j) : (fun b => (zaq pn ρ b).name) = z9w pn ρ := by
 funext b;simp only [zaq, z9w, zu9 hinj];cases ji ρ b with
 | none => rfl
 | some j =>
  simp only
  by_cases h : j < pn
  ·rw [kP.mpr h, if_pos h]; rfl
  ·have : kJ j pn = false := by
    cases hb : kJ j pn with
    | false => rfl
    | true => exact absurd (kP.mp hb) h
   rw [this, if_neg h]; rfl
theorem zrs {σ : TS} (hw : σ.wf) (pn : Nat) (ρ : List Nat) {H' : List TOb} (hH : ∀ o, o ∈ H' -> o.wf) : (zjc σ pn ρ H').wf := by
 refine ⟨zg5 (fun b o h => absurd h (zdp pn ρ b o)) hw.slots, fun o ho => ?_⟩
 simp only [zjc, z7z] at ho;rcases List.mem_append.1 ho with ho | ho
 ·obtain ⟨i, hi⟩ := kG.1 ho;rw [zar] at hi;cases hq : σ.H[i]? with
  | none => rw [hq] at hi; cases hi
  | some q =>
   rw [hq] at hi;simp only [kI, Option.some.injEq] at hi;subst hi;split
   ·rename_i j _;cases kJ j pn with
    | false => trivial
    | true =>
     simp only [cond_true];split
     ·rename_i o' ho';exact zd8 (fun b o h => absurd h (z6x _ _ _ b o)) (hH _ (kE ho'))
     ·trivial
   ·exact zd8 (fun b o h => absurd h (zdp _ _ b o)) (hw.H _ (kE hq))
 ·simp only [List.mem_map] at ho;obtain ⟨o', ho', rfl⟩ := ho;exact zd8 (fun b o h => absurd h (z6x _ _ _ b o)) (hH _ (List.mem_of_mem_drop ho'))
theorem zru {w w' : World} {c c' : Cx} {σ : TS} {a : Act} (hr : RelT w c σ a) (hw : σ.wf) {pn : Nat} {ρ : List Nat} (hk : zcb (kA σ.H) σ.p pn ρ = true) {H' : List TOb} (hH : ∀ o, o ∈ H' -> o.wf) (g' : Ab.Good w' c' (H'.map TOb.flat) [])
  (x : ExtP pn w (xC w c pn ρ) w' c') (hpn : pn <= H'.length) : ∃ c3, RelT w' c3 (zjc σ pn ρ H') a /\ ExtP σ.p w c w' c3 /\ ∀ (t : TV) v, t.wf -> VR w' c' t.pv v -> VR w' c3 (t.mv (z2j (kA σ.H) pn ρ)).pv v := by
 have g := hr.good;have hlen : (σ.H.map TOb.flat).length = σ.H.length := by simp
 have hh : Hand c (σ.H.map TOb.flat).length pn ρ := by rw [hlen]; exact zi8 hk hr.1
 have xx := zrt g hh g' x;have hpn' : pn <= (H'.map TOb.flat).length := by simpa using hpn
 have M1 : MvH (zaq pn ρ) w c w' (zO c c' (σ.H.map TOb.flat).length pn ρ) :=
  ⟨by rw [zqi hh.inj]; exact zmc g hh g' x hpn' xx, fun b o h => absurd h (zdp _ _ b o), fun b o k h => absurd h (zdp _ _ b o)⟩
 have M2 : MvH (z2j σ.H.length pn ρ) w' c' w' (zO c c' (σ.H.map TOb.flat).length pn ρ) :=
  ⟨by rw [znj, <- hlen]; exact zmb g hh g' x hpn', fun b o h => absurd h (z6x _ _ _ b o), fun b o k h => absurd h (z6x _ _ _ b o)⟩
 have getOld : ∀ b : Nat, b < σ.H.length -> (z7z pn ρ σ.H H')[b]? = (σ.H[b]?).map fun o => match jq ρ b 0 with
   | some j => bif kJ j pn then (match H'[j]? with
    | some o' => o'.mv (z2j σ.H.length pn ρ)
    | none => .gone) else .gone
   | none => o.mv (zaq pn ρ) := fun b hb => by
  simp only [z7z];rw [List.getElem?_append_left (by rw [z3r]; exact hb), zar, Nat.zero_add]
 have getNew : ∀ j : Nat, pn <= j -> (z7z pn ρ σ.H H')[σ.H.length + (j - pn)]? = (H'[j]?).map (TOb.mv (z2j σ.H.length pn ρ)) := fun j hj => by
  simp only [z7z];rw [List.getElem?_append_right (by rw [z3r]; omega), z3r, kB, List.getElem?_drop, show pn + (σ.H.length + (j - pn) - σ.H.length) = j by omega]
 have hG := (zpp g hh g' x hpn' (H3 := (z7z pn ρ σ.H H').map TOb.flat) (by simp [z7z, z3r]) (fun j b hj hb => ?_) (fun j b hj hb => ?_) (fun b hb hno => ?_) (fun j hj hl => ?_)).1
 ·exact ⟨zO c c' (σ.H.map TOb.flat).length pn ρ, ⟨hr.1, hG, zlr hw M1 hr.2.2 _ _⟩, by rw [<- hr.1]; exact xx, fun t v ht hv => (vc M2 t ht).pv v hv⟩
 ·have hbl : b < σ.H.length := by rw [<- hlen]; exact hh.lt j b hb
  have hjl : j < H'.length := by omega
  have hp : jq ρ b 0 = some j := by
   cases hp : jq ρ b 0 with
   | none => exact absurd hb (zcw hp j)
   | some i => rw [hh.inj i j b (z3c hp) hb]
  have := getOld b hbl;rw [kD hbl, kI, hp] at this;simp only [kP.mpr hj, cond_true, kD hjl] at this;refine ⟨_, _, by rw [kB, kD hjl]; rfl, by rw [kB, this]; rfl, ?_⟩
  exact zly M2 (hH _ (kQ hjl))
 ·have hbl : b < σ.H.length := by rw [<- hlen]; exact hh.lt j b hb
  have hp : jq ρ b 0 = some j := by
   cases hp : jq ρ b 0 with
   | none => exact absurd hb (zcw hp j)
   | some i => rw [hh.inj i j b (z3c hp) hb]
  have hnb : kJ j pn = false := by
   cases hb : kJ j pn with
   | false => rfl
   | true => exact absurd (kP.mp hb) (by omega)
  have := getOld b hbl;rw [kD hbl, kI, hp] at this;simp only [hnb, cond_false] at this;rw [kB, this]; rfl
 ·rw [hlen] at hb;have hp : jq ρ b 0 = none := by
   cases hp : jq ρ b 0 with
   | none => rfl
   | some i => exact absurd (z3c hp) (hno i)
  have := getOld b hb;rw [kD hb, kI, hp] at this;simp only at this;rcases zly M1 (hw.H _ (kQ hb)) with ⟨h1, h2⟩ | ⟨cs, e, cs2, h1, h2, h3, h4, h5⟩
  ·exact .inl ⟨by rw [kB, kD hb]; exact congrArg some h1, by rw [kB, this]; exact congrArg some h2⟩
  ·exact .inr ⟨cs, e, cs2, by rw [kB, kD hb]; exact congrArg some h1, by rw [kB, this]; exact congrArg some h2, h3, h4, h5⟩
 ·have hl' : j < H'.length := by simpa using hl
  have := getNew j hj;rw [kD hl', kI] at this;refine ⟨_, _, by rw [kB, kD hl']; rfl, by rw [hlen, kB, this]; rfl, ?_⟩
  exact zly M2 (hH _ (kQ hl'))
variable {R : Type} {S : Sig}
theorem zlp {args : List TV} {Hc : List TOb} {la lb : List TV} {k : LT S.codes -> Option R} {r : R} (hwa : TV.wfs args) (hwH : ∀ o, o ∈ Hc -> o.wf) (ha : yG S.A args = some la) (hb : qU S.hp Hc = some lb)
  (h : (vp S.codes (la ++ lb) fun x => z39 (S.lens (yj S.codes x)) (jQ S.A args ++ z2s S.hp Hc) (k x)) = some r) :
  ∃ x, k x = some r /\ FitsL args (S.args x) /\ (∀ o, o ∈ S.heap x -> o.wf) /\ (S.heap x).length = Hc.length /\ ∀ (i : Nat) o o', Hc[i]? = some o -> (S.heap x)[i]? = some o' -> za4 o o' := by
 have la_len := vB _ _ ha;have hlw : ∀ t, t ∈ la ++ lb -> t.wf := fun t ht => by
  rcases List.mem_append.1 ht with ht | ht
  ·exact vk _ _ hwa ha t ht
  ·exact z90 _ _ hwH hb t ht
 obtain ⟨x, h1, h2, h3, h4⟩ := z6e S.codes _ hlw h;obtain ⟨h1, hg⟩ := z4x h1;obtain ⟨hg1, hg2⟩ := hg.split;refine ⟨x, h1, ?_⟩;unfold Sig.args Sig.heap;generalize hvs : yj S.codes x = vs at h3 h4 hg1 hg2;have sld : SldL (la ++ lb) vs := ⟨h3.symm, h4⟩;obtain ⟨s1, s2⟩ := sld.split;have hnS : (zi S.A).length = la.length := la_len.symm;obtain ⟨ts', f1, f2⟩ := vZ (lens := S.lens vs) S.A args (vs.drop la.length) hwa ha s1 hg1;rw [List.take_append_drop] at f1;obtain ⟨f3, f4⟩ := z8w (lens := S.lens vs) (ss := vs.drop la.length) [] hwH hb s2 hg2;rw [List.append_nil] at f3 f4;rw [f1, hnS];refine ⟨f2, fun o ho => ?_, f3, f4⟩
 obtain ⟨i, hi⟩ := kG.1 ho;have hlt : i < Hc.length := by rw [<- f3]; exact (kM.1 hi).1
 have := f4 i _ o (kD hlt) hi;generalize Hc[i] = o0 at this;cases o <;> cases o0 <;> first | exact this.elim | trivial | exact this.2.1
theorem zs6 {w : World} {Hc H' : List TOb} (g : Ab.Good w c (Hc.map TOb.flat) []) (h3 : H'.length = Hc.length) (h4 : ∀ (i : Nat) o o', Hc[i]? = some o -> H'[i]? = some o' -> za4 o o') : Ab.Good w c (H'.map TOb.flat) [] := by
 refine Good.le g (by simp [h3]) fun i o1 o2 e1 e2 => ?_
 simp only [kB] at e1 e2;cases e3 : Hc[i]? with
 | none => rw [e3] at e1; cases e1
 | some q =>
  cases e4 : H'[i]? with
  | none => rw [e4] at e2; cases e2
  | some q' =>
   rw [e3] at e1; rw [e4] at e2;simp at e1 e2;subst e1; subst e2;exact ze2 (h4 i q q' e3 e4)
def z54 (H : List TOb) (args : List TV) : List TV := bif vM args then args else mvs (z3z 6 H) args
def ztp : List TOb -> Bool
 | [] => true
 | _ => false
def z0w (S : Sig) (fn : LT S.codes -> Option S.X.T) : Ent where
 f := S.f
 ok := fun H args => zes S.A (z54 H args)
 run := fun H args k => match yG S.A (z54 H args), qU S.hp [] with
  | some a, some b => bif kN S.pn 0 then vp S.codes (a ++ b) fun x => z39 (S.lens (yj S.codes x)) (jQ S.A (z54 H args) ++ z2s S.hp [])
    ((fn x).bind fun y => S.X.open' y fun _ τ => bif ztp τ.H && ((z1s τ).flatB || (vM args && (z1s τ).pureB)) then k (z1s τ) else none) else none
  | _, _ => none
theorem zpo {w w' : World} {c c' : Cx} {H : List AObj} (g : Ab.Good w c H []) (x : ExtP 0 w (qg w c 0) w' c') (a : Addr) (n : Nat) (h : Foot w' c' a n) : Foot w' c a n := by
 rcases h with h | ⟨h1, h2, h3, h4, h5⟩
 ·exact .inl h
 ·rw [x.ok] at h5
  by_cases hlt : a.block < w.heap.size
  ·obtain ⟨h6, h7, h8⟩ := h5 hlt;exact .inr ⟨h1, h2, h6, h7, h8⟩
  ·exact .inr ⟨h1, h2, fun h => hlt (g.mlt h), fun i j h => absurd (g.tlt h) hlt, g.okn _ _ (Nat.le_of_not_lt hlt)⟩
theorem zic {w w' : World} {c c0 c' : Cx} {H : List AObj} (g : Ab.Good w c H []) (hm : c0.m = []) (x : ExtP 0 w c0 w' c') : Ab.Good w' c H [] /\ Ext w c w' c :=
 zax g x.os x.tape x.output x.size (fun b hb => x.blocks b hb (by rw [hm]; simp))
variable {P : Program}
theorem jc {fn : LT S.codes -> Option S.X.T} (h : FnOK P S fn) : zng P (z0w S fn) := by
 intro R H args k r hH hwa hr;simp only [z0w] at hr ⊢;split at hr
 ·rename_i la lb hla hlb;cases hpn : kN S.pn 0 with
  | false => rw [hpn] at hr; cases hr
  | true =>
   rw [hpn] at hr;simp only [cond_true] at hr;have hp0 := kH hpn;have hwa' := xm.2 hwa;have hwv : TV.wfs (z54 H args) := by
    unfold z54;cases vM args with
    | true => exact hwa'
    | false => exact (z4h (zdw hH 6) args hwa').1
   obtain ⟨x, h1, h2, h3, h4, h5⟩ := zlp hwv (by intro o ho; cases ho) hla hlb hr
   have hheap : S.heap x = [] := kK h4;rw [Option.bind_eq_some_iff] at h1;obtain ⟨y, hy, hk⟩ := h1;rw [h.open'] at hk;have hwx := xm.1 h2.wf;obtain ⟨r1, r2⟩ := h.ret x y hy hwx h3;cases hc : ztp (S.X.at' y).2.H && ((z1s (S.X.at' y).2).flatB || (vM args && (z1s (S.X.at' y).2).pureB)) with
   | false => rw [hc] at hk; cases hk
   | true =>
    rw [hc] at hk;simp only [cond_true] at hk;simp only [kC, Bool.or_eq_true] at hc;obtain ⟨hn, hres⟩ := hc;refine ⟨_, hk, r1, .inr ⟨h.can, fun Y w c vs hY g hsz hv => ?_⟩⟩
    have hcall := h.calls x y hy hwx h3;rw [hheap, hp0] at hcall;have hlen : vs.size = (((S.args x).map TV.pv)).length := by
     rw [kF, h2.len, hsz];unfold z54;cases vM args with
     | true => rfl
     | false => simp [zdl]
    cases hpu : vM args with
    | true =>
     have hva : z54 H args = args := by unfold z54; rw [hpu]; rfl
     have hp1 := (z0c args hwa' hpu).1;have g0 : Ab.Good w (qg w c 0) [] [] := zme g 0;have hv0 : VRs w (qg w c 0) ((S.args x).map TV.pv) (fun i => vs[i]?) := by
      have h6 := h2.pvs;rw [hva, xl, xl] at h6;rw [xl] at hp1;exact jk ⟨_, _, g0⟩ h6 (VRs.transfer (zmd 0) _ hp1 hv)
     refine (hcall w _ vs g0 rfl hlen hv0).mono ?_;rintro e w' ⟨v, p, H', c', rfl, ⟨rfl, rfl⟩, g', hv', x'⟩;obtain ⟨g1, x1⟩ := zic g rfl x';refine ⟨v, rfl, ?_, g1, x1⟩;rcases hres with hf | ⟨_, hf⟩
     ·exact Fl.to _ (z66 _ r1 hf).1 hv'
     ·exact VR.transfer (zpo g x') _ (yS _ r1 hf).1 hv'
    | false =>
     have hva : z54 H args = mvs (z3z 6 H) args := by unfold z54; rw [hpu]; rfl
     have M := znd hY g hH 6;have hv0 : VRs w vm ((S.args x).map TV.pv) (fun i => vs[i]?) := by
      have h6 := h2.pvs;rw [hva, xl (S.args x)] at h6;rw [<- xl] at hv;exact jk ⟨_, _, zie g⟩ h6 ((z6m M args hwa').2.1 _ hv)
     refine (hcall w _ vs (zie g) rfl hlen hv0).mono ?_;rintro e w' ⟨v, p, H', c', rfl, ⟨rfl, rfl⟩, g', hv', x'⟩;obtain ⟨g1, x1⟩ := zic g rfl x';refine ⟨v, rfl, ?_, g1, x1⟩;rcases hres with hf | ⟨hf, _⟩
     ·exact Fl.to _ (z66 _ r1 hf).1 hv'
     ·rw [hpu] at hf; cases hf
 ·cases hr
def z51 : List HPat -> List (Option Nat) -> Nat -> List Nat × List HPat
 | h :: hs, some b :: ρ, n => (b :: (z51 hs ρ n).1, (z51 hs ρ n).2)
 | h :: hs, none :: ρ, n => (n :: (z51 hs ρ (n + 1)).1, h :: (z51 hs ρ (n + 1)).2)
 | _, _, _ => ([], [])
def vL (S : Sig) (H : List TOb) (args : List TV) : List (Option Nat) := zgu S.hp (zjy H S.hp 0 (zdf S.A args (S.hp.map fun _ => none)))
def zjh (S : Sig) (H : List TOb) (args : List TV) (ρ : List (Option Nat)) : List Nat := zev S.A args ++ zfr H S.hp ρ
def zns (S : Sig) (fn : LT S.codes -> Option S.X.T) (σ1 : TS) (ρ : List Nat) (args : List TV) (k : TS -> TV -> Option R) : Option R :=
 match yG S.A (mvs (z1i ρ) args), qU S.hp (jo (z1i ρ) σ1.H S.hp (ρ.map some)) with
 | some a, some b => bif kN (kA S.hp) (kA ρ) && zcb (kA σ1.H) σ1.p S.pn ρ then
   vp S.codes (a ++ b) fun x => z39 (S.lens (yj S.codes x)) (jQ S.A (mvs (z1i ρ) args) ++ z2s S.hp (jo (z1i ρ) σ1.H S.hp (ρ.map some)))
    ((fn x).bind fun y => S.X.open' y fun _ τ => bif kS S.pn (kA τ.H) then k (zjc σ1 S.pn ρ τ.H) ((z1s τ).mv (z2j (kA σ1.H) S.pn ρ)) else none)
  else none
 | _, _ => none
def ztr (σ : TS) (fz : List Nat) (ρr : List (Option Nat)) (hs : List HPat) (args : List TV) (k : TS -> List TV -> Option R) : Option R :=
 bif jR σ.p ρr && kN (kA hs) (kA ρr) then k (zp8 σ (qT σ.p σ.H ρr fz) hs ρr) (mvs (qT σ.p σ.H ρr fz) args) else none
def vY (S : Sig) (fn : LT S.codes -> Option S.X.T) : EEnt where
 f := S.f
 ok := fun σ args => zes S.A args && zjg σ.H S.hp (vL S σ.H args)
 run := fun σ args k =>
  ztr σ (zjh S σ.H args (vL S σ.H args)) (z4y (kA σ.H) σ.p (zjh S σ.H args (vL S σ.H args)) (vL S σ.H args) ++ (z51 S.hp (vL S σ.H args) (kA σ.H)).2.map fun _ => none)
   (List.replicate (kA σ.H) .gone ++ (z51 S.hp (vL S σ.H args) (kA σ.H)).2) args fun σ1 args1 =>
    zns S fn σ1 (z51 S.hp (vL S σ.H args) (kA σ.H)).1 args1 k
theorem znt {fn : LT S.codes -> Option S.X.T} (h : FnOK P S fn) {σ : TS} {ρ : List Nat} {args : List TV} {k : TS -> TV -> Option R} {r : R} (hw : σ.wf) (hwa : TV.wfs args) (hr : zns S fn σ ρ args k = some r) : EDoes P S.f σ args k r := by
 unfold zns at hr;split at hr
 ·rename_i la lb hla hlb;cases hc : kN (kA S.hp) (kA ρ) && zcb (kA σ.H) σ.p S.pn ρ with
  | false => rw [hc] at hr; cases hr
  | true =>
   rw [hc] at hr;simp only [cond_true] at hr;simp only [kC] at hc;obtain ⟨hc1, hc2⟩ := hc;have hl := kH hc1;have hwv : TV.wfs (mvs (z1i ρ) args) := (z4h (fun b o h => absurd h (zal ρ b o)) args hwa).1
   have hwH : ∀ o, o ∈ jo (z1i ρ) σ.H S.hp (ρ.map some) -> o.wf := zl5 (fun b o h => absurd h (zal ρ b o)) hw.H
   obtain ⟨x, h1, h2, h3, h4, h5⟩ := zlp hwv hwH hla hlb hr;rw [Option.bind_eq_some_iff] at h1;obtain ⟨y, hy, hk⟩ := h1;rw [h.open'] at hk;have hwx := xm.1 h2.wf;obtain ⟨r1, r2⟩ := h.ret x y hy hwx h3;cases hpn : kS S.pn (kA (S.X.at' y).2.H) with
   | false => rw [hpn] at hk; cases hk
   | true =>
    rw [hpn] at hk;simp only [cond_true] at hk;have hw1 := zrs hw S.pn ρ r2;have hw2 := (z50 (fun b o h => absurd h (z6x (kA σ.H) S.pn ρ b o)) _ r1).1
    refine ⟨h.can, ⟨_, _, hk, hw1, hw2⟩, fun c w a vs hrel hsz hv => ?_⟩
    have g := hrel.good;have hh : Hand c (σ.H.map TOb.flat).length S.pn ρ := by rw [kF]; exact zi8 hc2 hrel.1
    have g0 := zs6 (zq9 hw.H g hh hl) h4 h5;have M := zkq g S.pn ρ;have hv0 : VRs w (xC w c S.pn ρ) ((S.args x).map TV.pv) (fun i => vs[i]?) := by
     have h6 := h2.pvs;rw [xl (S.args x)] at h6;rw [<- xl] at hv;exact jk ⟨_, _, g0⟩ h6 ((z6m M args hwa).2.1 _ hv)
    refine ((h.calls x y hy hwx h3) w _ vs g0 rfl (by rw [kF, h2.len, hsz, zdl, kF]) hv0).mono ?_
    rintro e w' ⟨v, p, H', c', rfl, ⟨rfl, rfl⟩, g', hv', x'⟩;obtain ⟨c3, b1, b2, b3⟩ := zru hrel hw hc2 r2 g' x' (kO hpn);exact ⟨v, _, _, c3, rfl, hk, hw1, hw2, rfl, b1, b3 _ _ r1 hv', b2⟩
 ·cases hr
theorem qI {fn : LT S.codes -> Option S.X.T} (h : FnOK P S fn) : z6u P (vY S fn) := by
 intro R σ args k r hw hwa hr;simp only [vY, ztr] at hr ⊢;generalize hρr : (z4y (kA σ.H) σ.p (zjh S σ.H args (vL S σ.H args)) (vL S σ.H args) ++ (z51 S.hp (vL S σ.H args) (kA σ.H)).2.map fun _ => none) = ρr at hr
 generalize hhs : (List.replicate (kA σ.H) HPat.gone ++ (z51 S.hp (vL S σ.H args) (kA σ.H)).2) = hs at hr;generalize (z51 S.hp (vL S σ.H args) (kA σ.H)).1 = ρ at hr;generalize zjh S σ.H args (vL S σ.H args) = fz at hr;cases hc : jR σ.p ρr && kN (kA hs) (kA ρr) with
 | false => rw [hc] at hr; cases hr
 | true =>
  rw [hc] at hr;simp only [cond_true] at hr;simp only [kC] at hc;have hwa' := xm.2 hwa;have hd := znt h (zhu hw) (z4h (zc3 hw.H) args hwa').1 hr;refine ⟨hd.can, hd.wf, fun c w a vs hrel hsz hv => ?_⟩
  obtain ⟨q1, q2⟩ := zlk hrel hw hc.1 fz (kH hc.2);have M := zg4 hrel.good hw.H hrel.1 (ρ := ρr) fz;have hv1 : VRs w (jM c ρr) ((mvs (qT σ.p σ.H ρr fz) args).map TV.pv) (fun i => vs[i]?) := by
   rw [<- xl] at hv ⊢;exact (z6m M args hwa').2.1 _ hv
  refine (hd.calls _ w a vs q1 (by rw [hsz, zdl, kF]) hv1).mono ?_
  rintro e w' ⟨v, σ', t, c', e1, e2, e3, e4, e5, e6, e7, e8⟩;exact ⟨v, σ', t, c', e1, e2, e3, e4, e5, e6, e7, ExtP.trans q2 e8⟩
mutual
theorem U.beq_self : ∀ u : U, u.beq u = true
 | .int k => by cases k <;> rfl
 | .bool => rfl
 | .str => rfl
 | .leaf => rfl
 | .arr n u => by simp only [U.beq, kR, U.beq_self u, Bool.and_self]
 | .sl u => by simp only [U.beq, U.beq_self u]
 | .st us => by simp only [U.beq, Us.beq_self us]
theorem Us.beq_self : ∀ u : Us, u.beq u = true
 | .one u => by simp only [Us.beq, U.beq_self u]
 | .cons u us => by simp only [Us.beq, U.beq_self u, Us.beq_self us, Bool.and_self]
end
theorem zfl (u : U) (x : u.T) (k : u.T -> Option R) : xV u u x k = k x := by
 unfold xV;split
 ·rfl
 ·rename_i h; rw [U.beq_self] at h; cases h
mutual
def z7f : (u : U) -> u.T -> Prop
 | .str, s => kA s <= maxLen
 | .arr _ u, l => ∀ x, x ∈ l -> z7f u x
 | .sl u, l => kA l <= maxLen /\ ∀ x, x ∈ l -> z7f u x
 | .st us, x => zod us x
 | _, _ => True
def zod : (us : Us) -> us.T -> Prop
 | .one u, x => z7f u x
 | .cons u us, x => z7f u x.1 /\ zod us x.2
end
theorem zrr (l : List UInt8) : ba (l.map fun b => (b.toNat : Int)) = ⟨l.toArray⟩ := by
 unfold ba;congr 2;rw [List.map_map];have : ((fun n : Int => UInt8.ofNat n.toNat) ∘ fun b : UInt8 => (b.toNat : Int)) = id := by
  funext b; simp
 rw [this, List.map_id]
theorem zc5 {H : Type} {P : Program} {n : Nat} {e : TypeId} {u : U} (h : ∀ d : DataW H, Ab.Fits P n e d -> ∃ x : u.T, wfU u x /\ z7f u x /\ yI d = zc u x) :
  ∀ xs : List (DataW H), (∀ x, x ∈ xs -> Ab.Fits P n e x) -> ∃ l : List u.T, l.length = xs.length /\ (∀ x, x ∈ l -> wfU u x) /\ (∀ x, x ∈ l -> z7f u x) /\ yx xs = l.flatMap fun x => zc u x
 | [], _ => ⟨[], rfl, fun x hx => (by cases hx), fun x hx => (by cases hx), by simp [yx]⟩
 | d :: xs, hf => by
  obtain ⟨x, h1, h2, h3⟩ := h d (hf d (by simp))
  obtain ⟨l, g1, g2, g3, g4⟩ := zc5 h xs fun y hy => hf y (by simp [hy])
  refine ⟨x :: l, by simp [g1], fun y hy => ?_, fun y hy => ?_, by simp [yx, h3, g4]⟩
  ·rcases kL.1 hy with rfl | hy
   ·exact h1
   ·exact g2 y hy
  ·rcases kL.1 hy with rfl | hy
   ·exact h2
   ·exact g3 y hy
mutual
theorem zc6 {H : Type} {P : Program} : ∀ (u : U) (n m : Nat) (t : TypeId) (d : DataW H), Ab.Fits P n t d -> xg P m t u = true -> ∃ x : u.T, wfU u x /\ z7f u x /\ yI d = zc u x
 | _, 0, _, _, _, h, _ => h.elim
 | _, _ + 1, 0, _, _, _, h => by simp [xg] at h
 | .int k, n + 1, m + 1, t, d, hf, ha => by
  simp only [xg, kC] at ha;simp only [Ab.Fits] at hf;cases hu : P.underlying t with
  | none => rw [hu] at hf; exact hf.elim
  | some y =>
   rw [hu] at ha hf;cases y <;> first | (cases ha.2; done) | skip
   rename_i k';have := vh ha.2;subst this;obtain ⟨x, rfl, hw⟩ := hf;refine ⟨x, ?_, trivial, rfl⟩;simpa [wfU, Lit.wf] using hw
 | .bool, n + 1, m + 1, t, d, hf, ha => by
  simp only [xg, kC] at ha;simp only [Ab.Fits] at hf;cases hu : P.underlying t with
  | none => rw [hu] at hf; exact hf.elim
  | some y =>
   rw [hu] at ha hf;cases y <;> first | (cases ha.2; done) | skip
   obtain ⟨b, rfl⟩ := hf;exact ⟨b, trivial, trivial, rfl⟩
 | .str, n + 1, m + 1, t, d, hf, ha => by
  simp only [xg, kC] at ha;simp only [Ab.Fits] at hf;cases hu : P.underlying t with
  | none => rw [hu] at hf; exact hf.elim
  | some y =>
   rw [hu] at ha hf;cases y <;> first | (cases ha.2; done) | skip
   obtain ⟨l, rfl, hl⟩ := hf;refine ⟨l.map fun b => (b.toNat : Int), ?_, ?_, ?_⟩
   ·intro i hi;simp only [List.mem_map] at hi;obtain ⟨b, _, rfl⟩ := hi;have := b.toNat_lt;exact ⟨by omega, by omega⟩
   ·simpa [z7f] using hl
   ·simp only [yI, zc, zrr]
 | .arr k u, n + 1, m + 1, t, d, hf, ha => by
  simp only [xg, kC] at ha;simp only [Ab.Fits] at hf;cases hu : P.underlying t with
  | none => rw [hu] at hf; exact hf.elim
  | some y =>
   rw [hu] at ha hf;cases y <;> first | (cases ha.2; done) | skip
   obtain ⟨xs, rfl, hl, hx⟩ := hf;have ha := ha.2;simp only [kC] at ha;have ek := kH ha.1;obtain ⟨l, g1, g2, g3, g4⟩ := zc5 (fun d hd => zc6 u n m _ d hd ha.2) xs hx
   exact ⟨l, ⟨by rw [g1, hl, ek], g2⟩, g3, by simp only [yI, zc, g4]⟩
 | .sl u, n + 1, m + 1, t, d, hf, ha => by
  simp only [xg, kC] at ha;simp only [Ab.Fits] at hf;cases hu : P.underlying t with
  | none => rw [hu] at hf; exact hf.elim
  | some y =>
   rw [hu] at ha hf;cases y <;> first | (cases ha.2; done) | skip
   rcases hf with rfl | ⟨es, sp, rfl, hcap, hx⟩
   ·exact ⟨[], fun x hx => (by cases hx), ⟨Nat.zero_le _, fun x hx => (by cases hx)⟩, by simp [yI, zc]⟩
   ·obtain ⟨l, g1, g2, g3, g4⟩ := zc5 (fun d hd => zc6 u n m _ d hd ha.2) es hx
    exact ⟨l, g2, ⟨by rw [g1]; exact hcap, g3⟩, by simp only [yI, zc, g4, g1]⟩
 | .st us, n + 1, m + 1, t, d, hf, ha => by
  simp only [xg, kC] at ha;simp only [Ab.Fits] at hf;cases hu : P.underlying t with
  | none => rw [hu] at hf; exact hf.elim
  | some y =>
   rw [hu] at ha hf;cases y <;> first | (cases ha.2; done) | skip
   rename_i fs;obtain ⟨xs, rfl, hl, hx⟩ := hf;obtain ⟨x, g1, g2, g3⟩ := zmy us n m fs.toList xs 0 (by simpa using hl.symm) (fun i f x hi hxi => hx i f x (by simpa using hi) hxi) ha.2
   exact ⟨x, g1, g2, by simp only [yI, zc, g3]⟩
 | .leaf, n + 1, m + 1, t, d, hf, ha => by
  simp only [xg, kC] at ha;cases hu : P.underlying t with
  | none => rw [hu] at ha; cases ha.2
  | some y =>
   rw [hu] at ha;cases y <;> cases ha.2
theorem zmy {H : Type} {P : Program} : ∀ (us : Us) (n m : Nat) (fs : List Field) (xs : List (DataW H)) (off : Nat), fs.length = xs.length ->
  (∀ (i : Nat) f x, fs[i]? = some f -> xs[i]? = some x -> Ab.Fits P n f.type x) -> jd (xg P m) fs us off = true -> ∃ x : us.T, yV us x /\ zod us x /\ yx xs = zI us x
 | .one u, n, m, fs, xs, off, hl, hx, ha => by
  match fs, xs, hl with
  | [], _, _ => simp [jd] at ha
  | [f], [d], _ =>
   simp only [jd, kC] at ha;obtain ⟨x, g1, g2, g3⟩ := zc6 u n m f.type d (hx 0 f d rfl rfl) ha.2;exact ⟨x, g1, g2, by simp [yx, zI, g3]⟩
  | _ :: _ :: _, _, _ => simp [jd] at ha
 | .cons u us, n, m, fs, xs, off, hl, hx, ha => by
  match fs, xs, hl with
  | [], _, _ => simp [jd] at ha
  | [f], _, _ => simp [jd] at ha
  | f :: g :: fs, d :: e :: xs, hl =>
   simp only [jd, kC] at ha;obtain ⟨x, g1, g2, g3⟩ := zc6 u n m f.type d (hx 0 f d rfl rfl) ha.1.2;obtain ⟨y, k1, k2, k3⟩ := zmy us n m (g :: fs) (e :: xs) _ (by simpa using hl) (fun i f x hi hxi => hx (i + 1) f x (by simpa using hi) (by simpa using hxi)) ha.2
   refine ⟨(x, y), ⟨g1, k1⟩, ⟨g2, k2⟩, ?_⟩;rw [yx, g3, k3]; rfl
end
theorem zpj {m : Nat} {t : TypeId} {u : U} (h : xg P m t u = true) : xM P t = some u.isAgg := by
 cases m with
 | zero => simp [xg] at h
 | succ m =>
  simp only [xg, kC] at h;have h := h.2;unfold xM;cases hu : P.underlying t with
  | none => rw [hu] at h; cases h
  | some y =>
   rw [hu] at h;cases y <;> cases u <;> first | rfl | (cases h; done)
theorem zpl {H : Type} {n m : Nat} {t : TypeId} {d : DataW H} {u : U} (hf : Ab.Fits P n t d) (ha : xg P m t u = true) : ∃ x : u.T, wfU u x /\ z7f u x /\ z1h P t d = pvU u x := by
 obtain ⟨x, h1, h2, h3⟩ := zc6 u n m t d hf ha;refine ⟨x, h1, h2, ?_⟩;unfold z1h;rw [zpj ha, h3];cases u <;> first | rfl | exact h1.elim
def z3g (P : Program) (m : Nat) : List TypeId -> List U -> Bool
 | [], [] => true
 | t :: ts, u :: us => xg P m t u && z3g P m ts us
 | _, _ => false
def wfL : (l : List U) -> LT l -> Prop
 | [], _ => True
 | [u], x => wfU u x
 | u :: v :: r, x => wfU u x.1 /\ wfL (v :: r) x.2
def zsc : (l : List U) -> LT l -> Prop
 | [], _ => True
 | [u], x => z7f u x
 | u :: v :: r, x => z7f u x.1 /\ zsc (v :: r) x.2
theorem zms {H : Type} {P : Program} {n m : Nat} : ∀ (l : List U) {ts : List TypeId} {ds : List (DataW H)}, ts.length = ds.length -> (∀ (j : Nat) t d, ts[j]? = some t -> ds[j]? = some d -> Ab.Fits P n t d) -> z3g P m ts l = true ->
  ∃ x : LT l, wfL l x /\ zsc l x /\ List.zipWith (z1h P) ts ds = (yj l x).map TV.pv /\ (∀ a, a ∈ yj l x -> a.wf) /\ ∀ (R : Type) (k : LT l -> Option R), vp l (yj l x) k = k x
 | [], ts, ds, hl, hf, ha => by
  match ts, ds, hl with
  | [], [], _ => exact ⟨(), trivial, trivial, rfl, fun a h => (by cases h), fun R k => rfl⟩
  | _ :: _, _, _ => simp [z3g] at ha
 | [u], ts, ds, hl, hf, ha => by
  match ts, ds, hl with
  | [], _, _ => simp [z3g] at ha
  | [t], [d], _ =>
   simp only [z3g, kC, and_true] at ha;obtain ⟨x, h1, h2, h3⟩ := zpl (hf 0 t d rfl rfl) ha;refine ⟨x, h1, h2, by simp [yj, h3, TV.pv], fun a h => ?_, fun R k => ?_⟩
   ·simp only [yj, List.mem_singleton] at h; subst h; simpa only [TV.wf] using h1
   ·simp only [yj, vp, yT, zfl]
  | _ :: _ :: _, _, _ => simp [z3g] at ha
 | u :: v :: r, ts, ds, hl, hf, ha => by
  match ts, ds, hl with
  | [], _, _ => simp [z3g] at ha
  | t :: ts, d :: ds, hl =>
   simp only [z3g, kC] at ha;obtain ⟨x, h1, h2, h3⟩ := zpl (hf 0 t d rfl rfl) ha.1;obtain ⟨y, g1, g2, g3, g4, g5⟩ := zms (v :: r) (ts := ts) (ds := ds) (by simpa using hl) (fun j t d ht hd => hf (j + 1) t d (by simpa using ht) (by simpa using hd)) ha.2
   refine ⟨(x, y), ⟨h1, g1⟩, ⟨h2, g2⟩, by simp [yj, h3, g3, TV.pv], fun a h => ?_, fun R k => ?_⟩
   ·simp only [yj, kL] at h;rcases h with rfl | h
    ·simpa only [TV.wf] using h1
    ·exact g4 a (by simpa [yj] using h)
   ·simp only [yj, vp, yT, zfl];exact g5 R fun y => k (x, y)
def zw0 : XS := XS.one .ret (Shp.mk 1 0 [(0, .d .bool)] []).xe
def z3q (f : FuncId) (A : List Pat) : Sig := ⟨f, A, [], 0, zw0⟩
theorem zsb {H : Type} {f : FuncId} {n m : Nat} {A : List Pat} {law : LT (z3q f A).codes -> Option Bool} {ts : List TypeId} {ds : List (DataW H)} (hE : FnOK P (z3q f A) law)
  (hargs : ∀ x, (z3q f A).args x = yj (z3q f A).codes x)
  (hl : ts.length = ds.length) (hf : ∀ (j : Nat) t d, ts[j]? = some t -> ds[j]? = some d -> Ab.Fits P n t d) (ha : z3g P m ts (z3q f A).codes = true)
  (h : ∀ x, wfL (z3q f A).codes x -> zsc (z3q f A).codes x -> law x = some true) : ACalls P f (List.zipWith (z1h P) ts ds) [] 0 (fun p _ _ => p = .val (.bool true)) := by
 obtain ⟨x, h1, h2, h3, h4, h5⟩ := zms (z3q f A).codes hl hf ha;have hcall := hE.calls x true (h x h1 h2) (fun t ht => h4 t (by rw [<- hargs]; exact ht)) (fun o ho => by cases ho)
 rw [hargs, <- h3] at hcall;intro w c vs g hpn0 hsz hvs;refine (hcall w c vs g hpn0 hsz hvs).mono ?_;rintro e w' ⟨v, p, H', c', rfl, ⟨rfl, rfl⟩, g', hv, hx⟩;have hm : c.m = [] := kK (by rw [g.len]; rfl)
 have hT : c.T = [] := Ab.noT g;have hT' : c'.T = [] := Ab.noT g';refine ⟨v, _, _, [], c', rfl, rfl, g', hv, ?_⟩;exact
   {os := hx.os, tape := hx.tape, output := hx.output, size := hx.size
    ids := fun b k h => by rw [hm] at h; simp at h
    new := hx.new
    blocks := fun k hk hkm _ => hx.blocks k hk hkm
    cells := fun k hk hkm off v _ hv => by rw [qy (hx.blocks k hk hkm)]; exact hv
    toks := fun i k j h => by rw [hT'] at h; simp at h
    stay := fun i k j _ h => by rw [hT'] at h; simp at h
    tlen := by rw [hT, hT']; exact Nat.le_refl _
    room := hx.room
    pn := hx.pn
    ok := hx.ok }
@[reducible] def lenW (l : List Bool) : Nat := kA l
theorem z7g {S X : Type} (F : S -> Option (S ⊕ X)) (st : Nat -> S) (res : Nat -> X) (n : Nat) (last : F (st n) = some (.inr (res n)))
  (step : ∀ i, i < n -> (F (st i) = some (.inl (st (i + 1))) /\ res i = res (i + 1)) \/ F (st i) = some (.inr (res i))) : zn F (st 0) = some (res 0) := by
 have key : ∀ k i, i + k = n -> zn F (st i) = some (res i) := by
  intro k
  induction k with
  | zero => intro i h; rw [show i = n by omega, qF, last]; rfl
  | succ k ih =>
   intro i h;rw [qF];rcases step i (by omega) with ⟨h1, h2⟩ | h1
   ·rw [h1, h2]; exact ih (i + 1) (by omega)
   ·rw [h1]; rfl
 exact key n 0 (by omega)
theorem zus (k : IntKind) {n : Int} (h : k.min <= n /\ n <= k.max) : k.wrap n = n := by
 revert h;cases k <;> simp only [IntKind.min, IntKind.max, IntKind.wrap, IntKind.bits, IntKind.signed] <;> simp <;> intro h1 h2 <;> (try split) <;> omega
theorem jS {n : Int} (h : -9223372036854775808 <= n /\ n <= 9223372036854775807) : W64 n = n := zus .i64 h
theorem jh {a b : Int} (h : a < b) : ltI a b = true := by simpa [ltI] using h
theorem qW {a b : Int} (h : ¬ a < b) : ltI a b = false := by simpa [ltI] using h
theorem z8b {a b : Int} (h : a <= b) : leI a b = true := by simpa [leI] using h
theorem zvh {a b : Int} (h : ¬ a <= b) : leI a b = false := by simpa [leI] using h
theorem zjf {a b : Int} (h : a = b) : eqI a b = true := by simpa [eqI] using h
theorem ztj {a b : Int} (h : ¬ a = b) : eqI a b = false := by simpa [eqI] using h
theorem zdm {a b : Int} (h : ¬ a = b) : neI a b = true := by simpa [neI] using h
theorem z02 {a b : Int} (h : a = b) : neI a b = false := by simpa [neI] using h
variable {n : Nat}
theorem z87 {i : Int} (h : 0 <= i /\ i < n) : inI i n = true := by simp [inI, leI, ltI]; omega
theorem zkz {S X : Type} (F : S -> Option (S ⊕ X)) (n : Nat) (I : Nat -> S -> Prop) (Q : X -> Prop) (last : ∀ s, I n s -> ∃ x, F s = some (.inr x) /\ Q x)
  (step : ∀ i s, i < n -> I i s -> (∃ s', F s = some (.inl s') /\ I (i + 1) s') \/ (∃ x, F s = some (.inr x) /\ Q x)) {s : S} (h : I 0 s) : ∃ x, zn F s = some x /\ Q x := by
 have key : ∀ k i s, i + k = n -> I i s -> ∃ x, zn F s = some x /\ Q x := by
  intro k
  induction k with
  | zero =>
   intro i s hi h;rw [show i = n by omega] at h
   obtain ⟨x, h1, h2⟩ := last s h;exact ⟨x, by rw [qF, h1]; rfl, h2⟩
  | succ k ih =>
   intro i s hi h;rcases step i s (by omega) h with ⟨s', h1, h2⟩ | ⟨x, h1, h2⟩
   ·obtain ⟨x, g1, g2⟩ := ih (i + 1) s' (by omega) h2
    exact ⟨x, by rw [qF, h1]; exact g1, g2⟩
   ·exact ⟨x, by rw [qF, h1]; rfl, h2⟩
 exact key n 0 s (by omega) h
theorem yN (h : n <= 9223372036854775807) (k : Option R) : zT n k = k := by
 unfold zT; rw [Nat.ble_eq.mpr h]; rfl
theorem z79 {α : Type} {l : List α} {i : Nat} : vv l (i : Int) = l[i]? := by
 unfold vv; rw [z8b (Int.natCast_nonneg i)]; simp
theorem zkr {α : Type} {l : List α} {i : Nat} (h : i < l.length) : vv l (i : Int) = some l[i] := by
 rw [z79, kD h]
theorem zvc {l h : Int} (hh : 0 <= l /\ l <= h /\ h <= n) : xG l h n = true := by
 unfold xG; rw [z8b hh.1, z8b hh.2.1, z8b hh.2.2]; rfl
theorem ztl {a b : List Int} (h : a = b) : eqS a b = true := decide_eq_true h
theorem ztk {a b : List Int} (h : ¬ a = b) : eqS a b = false := decide_eq_false h
def Ok {A : Type} (x : Option A) (Q : A -> Prop) : Prop := ∃ a, x = some a /\ Q a
theorem zsm {A : Type} {k : Option A} {Q : A -> Prop} (e : n <= 9223372036854775807) (h : Ok k Q) : Ok (zT n k) Q := by rw [yN e]; exact h
theorem qs {A : Type} {k : Option A} {Q : A -> Prop} (h : Ok k Q) (e : n <= 9223372036854775807 := by omega) : Ok (zT n k) Q := zsm e h
end Go.Tm
