import Derived.Test.YtamfpgmpofncoaaTm1to7
import Derived.Laws.Externs
open Nat renaming eq_of_beq_eq_true → kA, beq → kB, add_assoc → ki, zero_mul → km, ble → ko, add_mul → kq, le_refl → kr
open Bool renaming and_eq_true → kC, not_eq_true' → kV
open List renaming eq_nil_of_length_eq_zero → kD, mem_of_getElem? → kE, getElem?_cons_zero → kF, getElem?_map → kG, mem_append → kH, nil_append → kI, length → kJ, getElem?_eq_some_iff → kK, mem_of_mem_drop → kM, length_append → kN, mem_singleton → kO, mem_append_right → kP, cons_append → kQ, length_cons → kR, length_drop → kS, mem_append_left → kT, mem_of_mem_take → kU, mem_flatMap → kW, mem_iff_getElem? → kY, take_append_drop → kZ, getElem?_drop → k8, getElem?_take → k9, map_cons → ka, mem_cons → kb, length_take → kc, drop → ke, length_map → kg, take → kh, mem_map → kj
open Int renaming le_refl → kL
open Option renaming map_some → k0
set_option linter.unusedSimpArgs false
set_option linter.unusedVariables false
namespace Go.Tm
open Go.Ab
mutual
theorem jK : ∀ (u : U) (x : u.T), wfU u x -> yf (zc u x)
 | .int _, _, _ => by simp only [zc, yf, Ab.Pure]; exact ⟨trivial, trivial⟩
 | .bool, _, _ => by simp only [zc, yf, Ab.Pure]; exact ⟨trivial, trivial⟩
 | .str, _, _ => by simp only [zc, yf, Ab.Pure]; exact ⟨trivial, trivial⟩
 | .leaf, _, h => by simp [wfU] at h
 | .sl u, l, h => by
  simp only [wfU] at h;simp only [zc, yf, Ab.Pure];refine ⟨⟨rfl, yP.2 fun p hp => ?_⟩, trivial⟩
  simp only [kW] at hp;obtain ⟨y, hy, hp⟩ := hp;exact yP.1 (jK u y (h y hy)) p hp
 | .arr n u, l, h => by
  simp only [wfU] at h;simp only [zc];refine yP.2 fun p hp => ?_
  simp only [kW] at hp;obtain ⟨y, hy, hp⟩ := hp;exact yP.1 (jK u y (h.2 y hy)) p hp
 | .st us, x, h => by
  simp only [wfU] at h;simp only [zc];exact zea us x h
theorem zea : ∀ (us : Us) (x : us.T), yV us x -> yf (zI us x)
 | .one u, x, h => by
  simp only [yV] at h;simp only [zI];exact jK u x h
 | .cons u us, x, h => by
  simp only [yV] at h;simp only [zI];refine yP.2 fun p hp => ?_
  rcases kH.1 hp with hp | hp
  ·exact yP.1 (jK u x.1 h.1) p hp
  ·exact yP.1 (zea us x.2 h.2) p hp
end
theorem zsp (u : U) (x : u.T) (h : wfU u x) : Ab.Pure (pvU u x) := by
 have := jK u x h;cases hg : u.isAgg with
 | true => rw [z6o x hg]; simp only [Ab.Pure]; exact this
 | false => rw [z4m x hg] at this; simp only [yf] at this; exact this.1
def z5r : TV -> List Stp -> Option TV
 | t, [] => some t
 | .v (.st us) x, .fld i :: p => match us.prj x i with
  | some ⟨u, y⟩ => z5r (.v u y) p
  | none => none
 | .agg ts, .fld i :: p => match ts[i]? with
  | some t => z5r t p
  | none => none
 | _, _ => none
theorem zet : ∀ {t : TV} {p : List Stp} {t' : TV}, z5r t p = some t' -> z2q t p (fun t => some t) = some t'
 | t, [], t', h => by simpa only [z5r, z2q] using h
 | .v (.st us) x, .fld i :: p, t', h => by
  simp only [z5r] at h;simp only [z2q];split at h
  ·rename_i u y hp; rw [hp]; exact zet h
  ·cases h
 | .agg ts, .fld i :: p, t', h => by
  simp only [z5r] at h;simp only [z2q];split at h
  ·rename_i t hp; rw [hp]; exact zet h
  ·cases h
 | .v (.int _) _, _ :: _, _, h | .v .bool _, _ :: _, _, h | .v .str _, _ :: _, _, h | .v (.sl _) _, _ :: _, _, h | .v .leaf _, _ :: _, _, h | .v (.arr _ _) _, _ :: _, _, h
 | .v (.st _) _, .idx _ :: _, _, h | .agg _, .idx _ :: _, _, h | .rf _, _ :: _, _, h | .nil, _ :: _, _, h | .fsl _ _, _ :: _, _, h | .osf _ _ _ _, _ :: _, _, h | .tup _, _ :: _, _, h | .ptr _ _ _, _ :: _, _, h
 | .os _ _ _ _ _ _, _ :: _, _, h | .one, _ :: _, _, h | .fn _ _, _ :: _, _, h | .nilp, _ :: _, _, h | .nilf, _ :: _, _, h | .yl _, _ :: _, _, h | .nili, _ :: _, _, h | .nilm, _ :: _, _, h | .mp _, _ :: _, _, h | .ifc _ _, _ :: _, _, h | .dead, _ :: _, _, h => by
  simp [z5r] at h
variable {t : TV}
theorem zeu {p : List Stp} {t' : TV} (hw : t.wf) (h : z5r t p = some t') : GetOK t p t' := by
 obtain ⟨t2, h1, h2⟩ := z4f t p hw (zet h);cases h1; exact h2
def zhq (o : Ob) (r : Rt) (p : List Stp) (u : U) : Option (List u.T) :=
 bif r.beq o.lay then
  match o, p with
  | .row u' l, [] => xV (.sl u') (.sl u) l some
  | .row _ _, _ => none
  | .var t, p => match z5r t p with
   | some (.v (.arr _ u') l) => xV (.sl u') (.sl u) l some
   | _ => none
 else none
structure RowOK (o : Ob) (r : Rt) (p : List Stp) (u : U) (l : List u.T) : Prop where
 wf : ∀ x, x ∈ l -> wfU u x
 cells : (o.cells.drop (r.off p)).take (l.length * u.size) = zj u l
 le : r.off p + l.length * u.size <= o.cells.length
variable {u : U}
theorem z6j {m : Nat} {l : List u.T} (hw : (TV.v (.arr m u) l).wf) : (∀ x, x ∈ l -> wfU u x) /\ (TV.v (.arr m u) l).cells = zj u l /\ (zj u l).length = l.length * u.size := by
 simp only [TV.wf, wfU] at hw;exact ⟨hw.2, vO m u l, xS hw.2⟩
variable {o : Ob}
theorem zig {r : Rt} {p : List Stp} {l : List u.T} (hw : o.wf) (h : zhq o r p u = some l) : RowOK o r p u l := by
 unfold zhq at h;cases hc : r.beq o.lay with
 | false => rw [hc] at h; cases h
 | true =>
  rw [hc] at h;have e := Rt.beq_eq hc;subst e;simp only [cond_true] at h;split at h
  ·rename_i u' l';obtain ⟨e, h⟩ := yg h;cases e;cases h;have hl := xS hw;refine ⟨hw, ?_, ?_⟩
   ·simp only [Ob.cells, Ob.lay, Rt.off, List.drop_zero];rw [<- hl]; exact List.take_length
   ·simp only [Ob.cells, Ob.lay, Rt.off]; omega
  ·cases h
  ·rename_i t;split at h
   ·rename_i m u' l' hf;obtain ⟨e, h⟩ := yg h;cases e;cases h;have hg := zeu hw.1 hf;obtain ⟨h1, h2, h3⟩ := z6j hg.wf;have e6 := hg.cells; have e7 := hg.le;rw [h2] at e6 e7;rw [h3] at e6 e7;exact ⟨h1, e6, e7⟩
   ·cases h
variable {R : Type}
def zt3 (o : Ob) (r : Rt) (p : List Stp) (u : U) (k : List u.T -> Option R) : Option R :=
 bif r.beq o.lay then
  match o, p with
  | .row u' l, [] => xV (.sl u') (.sl u) l k
  | o, p => zak o p fun t => match t with
   | .v (.arr _ u') l => xV (.sl u') (.sl u) l k
   | _ => none
 else none
theorem zr2 {r : Rt} {p : List Stp} {k : List u.T -> Option R} {x : R} (hw : o.wf) (h : zt3 o r p u k = some x) : ∃ l, k l = some x /\ RowOK o r p u l := by
 unfold zt3 at h;cases hc : r.beq o.lay with
 | false => rw [hc] at h; cases h
 | true =>
  rw [hc] at h;have e := Rt.beq_eq hc;subst e;simp only [cond_true] at h;split at h
  ·rename_i u' l';obtain ⟨e, h⟩ := yg h;cases e;have hl := xS hw;refine ⟨l', h, hw, ?_, ?_⟩
   ·simp only [Ob.cells, Ob.lay, Rt.off, List.drop_zero];rw [<- hl]; exact List.take_length
   ·simp only [Ob.cells, Ob.lay, Rt.off]; omega
  ·obtain ⟨t', h1, h2⟩ := z85 _ _ hw h;split at h1
   ·rename_i m u' l';obtain ⟨e, h1⟩ := yg h1;cases e;obtain ⟨g1, g2, g3⟩ := z6j h2.wf;have e6 := h2.cells; have e7 := h2.le;rw [g2] at e6 e7;rw [g3] at e6 e7;exact ⟨l', h1, g1, e6, e7⟩
   ·cases h1
inductive Fate where
 | to (j : Nat)
 | gone
 | fz (o : Ob)
def Fate.name : Fate -> Option Nat
 | .to j => some j
 | _ => none
def zdr (o : Ob) (r : Rt) (p : List Stp) : TV :=
 match o with
 | .var t => bif r.beq o.lay then (match z5r t p with
  | some t' => bif t'.stores then .rf t' else .one
  | none => .one) else .one
 | .row _ _ => .one
def zdx (o : Ob) (r : Rt) (p : List Stp) (u : U) (lo n : Nat) : TV :=
 match zhq o r p u with
 | some l => .osf u l lo n
 | none => .one
mutual
def TV.mv (g : Nat -> Fate) : TV -> TV
 | .ptr b r p => match g b with
  | .to j => .ptr j r p
  | .gone => .one
  | .fz o => zdr o r p
 | .os b r p u lo n => match g b with
  | .to j => .os j r p u lo n
  | .gone => .one
  | .fz o => zdx o r p u lo n
 | .rf t => .rf (t.mv g)
 | .agg ts => .agg (mvs g ts)
 | .tup ts => .tup (mvs g ts)
 | .fn f ts => .fn f (mvs g ts)
 | .ifc t x => .ifc t (x.mv g)
 | .mp b => match g b with
  | .to j => .mp j
  | _ => .one
 | t => t
def mvs (g : Nat -> Fate) : List TV -> List TV
 | [] => []
 | t :: ts => t.mv g :: mvs g ts
end
theorem zdl (g : Nat -> Fate) : ∀ ts : List TV, mvs g ts = ts.map (TV.mv g)
 | [] => rfl
 | t :: ts => by simp only [mvs, ka, zdl g ts]
structure MvH (g : Nat -> Fate) (w : World) (c : Cx) (w' : World) (c' : Cx) : Prop where
 base : Mv (fun b => (g b).name) w c w' c'
 fzw : ∀ b o, g b = .fz o -> o.wf
 fz : ∀ (b : Nat) o (k : Nat), g b = .fz o -> c.m[b]? = some (some k) -> (∀ off n, Foot w' c' ⟨k, off, none⟩ n) /\ ∃ (vs : Array Value) (e : TypeId) (fr : Nat × Nat), w'.heap[k]? = some (.cells vs e fr) /\ VRs w' c' o.cells (fun i => vs[i]?)
structure MvOK (w : World) (c : Cx) (w' : World) (c' : Cx) (t t' : TV) : Prop where
 wf : t'.wf
 pv : ∀ v, VR w c t.pv v -> VR w' c' t'.pv v
 cells : ∀ f, VRs w c t.cells f -> VRs w' c' t'.cells f
 len : t'.cells.length = t.cells.length
 leafs : zd t.cells -> zd t'.cells
 st : t.stores = true -> t'.stores = true
variable {w : World} {c : Cx}
theorem zde {p : PV} {f : Nat -> Option Value} : VRs w c [p] f ↔ ∃ v, f 0 = some v /\ VR w c p v := by simp only [VRs, and_true]
theorem MvOK.cell {w' : World} {c' : Cx} {t t' : TV} (h1 : t.cells = [t.pv]) (h2 : t'.cells = [t'.pv]) (hw : t'.wf) (hl : leaf t'.pv = true) (hs : t'.stores = true) (h : ∀ v, VR w c t.pv v -> VR w' c' t'.pv v) : MvOK w c w' c' t t' where
 wf := hw
 pv := h
 cells := fun f hf => by
  rw [h1, zde] at hf;rw [h2, zde];obtain ⟨v, e, hv⟩ := hf;exact ⟨v, e, h v hv⟩
 len := by rw [h1, h2]; rfl
 leafs := fun _ p hp => by rw [h2] at hp; simp at hp; subst hp; exact hl
 st := fun _ => hs
theorem z40 : TV.one.wf := by simp only [TV.wf]
theorem zhx {w : World} {c : Cx} : ∀ {xs ys : List PV} {f : Nat -> Option Value}, VRs w c (xs ++ ys) f -> VRs w c xs f /\ VRs w c ys (fun i => f (xs.length + i))
 | [], ys, f, h => ⟨by simp only [VRs], by simpa using h⟩
 | x :: xs, ys, f, h => by
  simp only [kQ, VRs] at h ⊢;obtain ⟨h1, h2⟩ := zhx h.2;refine ⟨⟨h.1, h1⟩, ?_⟩;simp only [kR];refine ve h2 fun i hi => ?_
  congr 1; omega
theorem zn0 {w' : World} {c' : Cx} {cs : List PV} {vs : Array Value} {e : TypeId} {fr : Nat × Nat} {k : Nat} (hb : w'.heap[k]? = some (.cells vs e fr)) (h : VRs w' c' cs (fun i => vs[i]?)) (off n : Nat) :
  VRs w' c' ((cs.drop off).take n) (fun i => w'.cell? ⟨k, off + i, none⟩) := by
 refine zU fun i q hq => ?_
 rw [k9] at hq;split at hq
 ·rw [k8] at hq;obtain ⟨u, hu, hr⟩ := zo h hq;exact ⟨u, by rw [vU hb]; exact hu, hr⟩
 ·cases hq
theorem zqq {x : u.T} (hw : wfU u x) {f : Nat -> Option Nat} : (pvU u x).ren f = pvU u x /\ xK f (zc u x) = zc u x := by
 have hp := jK u x hw;refine ⟨?_, xR hp⟩;cases hg : u.isAgg with
 | true => rw [z6o x hg]; simp only [PV.ren, xR hp]
 | false =>
  rw [z4m x hg] at hp;simp only [yf] at hp;exact zf2 hp.1
theorem xT {l : List u.T} (hw : ∀ x, x ∈ l -> wfU u x) : yf (zj u l) := yP.2 fun p hp => by
 simp only [zj, kW] at hp;obtain ⟨y, hy, hp⟩ := hp;exact yP.1 (jK u y (hw y hy)) p hp
mutual
theorem vc {g : Nat -> Fate} {w : World} {c : Cx} {w' : World} {c' : Cx} (H : MvH g w c w' c') : ∀ t : TV, t.wf -> MvOK w c w' c' t (t.mv g)
 | .v u x, hw => by
  simp only [TV.wf] at hw;obtain ⟨h1, h2⟩ := zqq hw (f := fun b => (g b).name)
  refine ⟨by simpa only [TV.mv, TV.wf] using hw, fun v hv => ?_, fun f hf => ?_, rfl, fun h => h, fun h => h⟩
  ·have := VR.move H.base _ hv;simp only [TV.pv] at this hv ⊢;rw [h1] at this; exact this
  ·have := VRs.move H.base _ (fun _ _ _ e => e) hf
   rw [xW u x hw] at this;rw [h2] at this;simp only [TV.mv];rw [xW u x hw]; exact this
 | .ptr b r p, hw => by
  simp only [TV.mv];have hone : MvOK w c w' c' (.ptr b r p) .one := .cell rfl rfl z40 rfl rfl fun v hv => by
   simp only [TV.pv, VR] at hv ⊢;obtain ⟨k, _, rfl⟩ := hv; rfl
  cases hg : g b with
  | to j =>
   refine .cell rfl rfl (by simp only [TV.wf]) rfl rfl fun v hv => ?_
   have := VR.move H.base _ hv;simp only [TV.pv, PV.ren, hg, Fate.name] at this;exact this
  | gone => exact hone
  | fz o =>
   cases o with
   | row u l => exact hone
   | var t =>
    simp only [zdr];cases hc : r.beq (Ob.var t).lay with
    | false => exact hone
    | true =>
     simp only [cond_true];cases hf : z5r t p with
     | none => exact hone
     | some t' =>
      simp only;cases hs : t'.stores with
      | false => exact hone
      | true =>
       simp only [cond_true];have hwo := H.fzw b _ hg;have hg2 := zeu hwo.1 hf;have hlf := xh hg2.wf hs;have e := Rt.beq_eq hc;subst e;refine .cell rfl rfl (by simp only [TV.wf]; exact ⟨hg2.wf, hlf⟩) rfl rfl fun v hv => ?_
       simp only [TV.pv, VR] at hv ⊢;obtain ⟨k, hk, rfl⟩ := hv;obtain ⟨f1, vs, e, fr, f2, f3⟩ := H.fz b _ k hg hk;refine ⟨_, rfl, f1 _ _, hlf, ?_⟩;have := zn0 f2 f3 (t.lay.off p) t'.cells.length;have hce := hg2.cells;simp only [Ob.cells] at this;rw [hce] at this;exact this
 | .os b r p u lo n, hw => by
  simp only [TV.mv];have hone : MvOK w c w' c' (.os b r p u lo n) .one := .cell rfl rfl z40 rfl rfl fun v hv => by
   simp only [TV.pv] at hv;obtain ⟨ad, cap, rfl⟩ := zef hv;simp only [TV.pv, VR]; rfl
  cases hg : g b with
  | to j =>
   refine .cell rfl rfl (by simp only [TV.wf]) rfl rfl fun v hv => ?_
   have := VR.move H.base _ hv;simp only [TV.pv, PV.ren, hg, Fate.name] at this;exact this
  | gone => exact hone
  | fz o =>
   simp only [zdx];cases hrl : zhq o r p u with
   | none => exact hone
   | some l =>
    have hwo := H.fzw b _ hg;have hrw := zig hwo hrl;refine .cell rfl rfl (by simp only [TV.wf]; exact hrw.wf) rfl rfl fun v hv => ?_
    simp only [TV.pv, VR] at hv ⊢;have hlf : zd (kh (n * u.size) (ke (lo * u.size) (zj u l))) := fun q hq => yQ hrw.wf q (kM (kU hq))
    have hsub : ∀ (k : Nat), c.m[b]? = some (some k) -> VRs w' c' (kh (n * u.size) (ke (lo * u.size) (zj u l))) (fun i => w'.cell? ⟨k, r.off p + lo * u.size + i, none⟩) := fun k hk => by
     obtain ⟨f1, vs, e, fr, f2, f3⟩ := H.fz b _ k hg hk;have := zn0 f2 f3 (r.off p) (l.length * u.size);rw [hrw.cells] at this;refine zU fun i q hq => ?_
     rw [k9] at hq;split at hq
     ·rw [k8] at hq;obtain ⟨x, hx, hr⟩ := zo this hq;refine ⟨x, ?_, hr⟩;rw [ki]; exact hx
     ·cases hq
    have hemp : ∀ (ad : Addr), n = 0 -> VRs w' c' (kh (n * u.size) (ke (lo * u.size) (zj u l))) (fun i => w'.cell? ⟨ad.block, ad.off + i, none⟩) := fun ad h => by
     rw [h, km, List.take_zero]; simp only [VRs]
    rcases hv with ⟨⟨ad, rfl⟩, rfl⟩ | ⟨k, cap, off', h1, rfl, h0, h3, _⟩
    ·cases ad with
     | none => exact .inl ⟨rfl, rfl, by simp, rfl⟩
     | some ad => exact .inr ⟨ad, 0, rfl, kr _, .inl (by simp), trivial, hlf, hemp ad rfl⟩
    ·by_cases hn : n = 0
     ·exact .inr ⟨_, cap, rfl, h3, .inl (by rw [hn]; simp), trivial, hlf, hemp _ hn⟩
     ·have hoff : off' = r.off p + lo * u.size := h0.resolve_left (fun h => hn h.1)
      subst hoff;exact .inr ⟨_, cap, rfl, h3, (H.fz b _ k hg h1).1 _ _, trivial, hlf, hsub k h1⟩
 | .rf t, hw => by
  simp only [TV.wf] at hw;have ih := vc H t hw.1;refine .cell rfl rfl (by simp only [TV.mv, TV.wf]; exact ⟨ih.wf, ih.leafs hw.2⟩) (by simp only [TV.mv, TV.pv]; rfl) rfl fun v hv => ?_
  simp only [TV.mv, TV.pv, VR] at hv ⊢;obtain ⟨a, h1, h2, h3, h4⟩ := hv;refine ⟨a, h1, ?_, ih.leafs h3, ih.cells _ ?_⟩
  ·have := H.base.foot _ _ h2;have e := ih.len;simp only [TV.cells] at e;rw [e]; exact this
  ·-- the cells are read in the world behind
   refine zU fun i q hq => ?_
   obtain ⟨u, hu, hr⟩ := zo h4 hq;exact ⟨u, H.base.cell a _ h2 i u (kK.1 hq).1 hu, hr⟩
 | .agg ts, hw => by
  simp only [TV.wf] at hw;obtain ⟨h1, h2, h3, h4⟩ := zl4 H ts hw.2.1;refine ⟨by simp only [TV.mv, TV.wf]; exact ⟨by cases ts with | nil => exact absurd rfl hw.1 | cons a l => simp [mvs], h1, h3 hw.2.2⟩, fun v hv => ?_, fun f hf => ?_, ?_, fun h => ?_, fun h => rfl⟩
  ·simp only [TV.mv, TV.pv, VR] at hv ⊢;obtain ⟨cv, e1, e2, e3, e4⟩ := hv;exact ⟨cv, e1, by rw [h4]; exact e2, h3 e3, h2 _ e4⟩
  ·simp only [TV.mv, TV.cells, TV.pv, cellsOf] at hf ⊢; exact h2 _ hf
  ·simp only [TV.mv, TV.cells, TV.pv, cellsOf]; exact h4
  ·simp only [TV.mv, TV.cells, TV.pv, cellsOf] at h ⊢; exact h3 h
 | .tup ts, hw => by
  simp only [TV.wf] at hw;obtain ⟨h1, h2, h3⟩ := z6m H ts hw;refine ⟨by simp only [TV.mv, TV.wf]; exact h1, fun v hv => ?_, fun f hf => ?_, rfl, fun h => ?_, fun h => by cases h⟩
  ·simp only [TV.mv, TV.pv, VR] at hv ⊢;obtain ⟨cv, e1, e2, e3⟩ := hv;exact ⟨cv, e1, by rw [h3]; exact e2, h2 _ e3⟩
  ·simp only [TV.mv, TV.cells, TV.pv, cellsOf] at hf ⊢;rw [zde] at hf ⊢;obtain ⟨v, e, hv⟩ := hf;refine ⟨v, e, ?_⟩;simp only [VR] at hv ⊢;obtain ⟨cv, e1, e2, e3⟩ := hv;exact ⟨cv, e1, by rw [h3]; exact e2, h2 _ e3⟩
  ·simp only [TV.mv, TV.cells, TV.pv, cellsOf] at h;exact absurd (h _ (kO.2 rfl)) (by simp [leaf])
 | .fn f ts, hw => by
  simp only [TV.wf] at hw;obtain ⟨h1, h2, h3⟩ := z6m H ts hw;refine .cell rfl rfl (by simp only [TV.mv, TV.wf]; exact h1) rfl rfl fun v hv => ?_
  simp only [TV.mv, TV.pv, VR] at hv ⊢;obtain ⟨cv, e1, e2, e3⟩ := hv;exact ⟨cv, e1, by rw [h3]; exact e2, h2 _ e3⟩
 | .ifc t x, hw => by
  simp only [TV.wf] at hw;have ih := vc H x hw;refine .cell rfl rfl (by simp only [TV.mv, TV.wf]; exact ih.wf) rfl rfl fun v hv => ?_
  simp only [TV.mv, TV.pv, VR] at hv ⊢;obtain ⟨u, h1, h2⟩ := hv;exact ⟨u, h1, ih.pv u h2⟩
 | .fsl u l, hw => by
  simp only [TV.wf] at hw;refine .cell rfl rfl (by simp only [TV.mv, TV.wf]; exact hw) rfl rfl fun v hv => ?_
  have := VR.move H.base _ hv;simp only [TV.pv, PV.ren, xR (xT hw)] at this;simp only [TV.mv, TV.pv]; exact this
 | .osf u l lo n, hw => by
  simp only [TV.wf] at hw;refine .cell rfl rfl (by simp only [TV.mv, TV.wf]; exact hw) rfl rfl fun v hv => ?_
  have := VR.move H.base _ hv;have hp : yf (kh (n * u.size) (ke (lo * u.size) (zj u l))) := yP.2 fun p hp => yP.1 (xT hw) p (kM (kU hp))
  simp only [TV.pv, PV.ren, xR hp] at this;simp only [TV.mv, TV.pv]; exact this
 | .nil, _ => .cell rfl rfl (by simp only [TV.mv, TV.wf]) rfl rfl fun v hv => by
  have := VR.move H.base _ hv;simp only [TV.pv, PV.ren, xK] at this;simp only [TV.mv, TV.pv]; exact this
 | .one, _ => .cell rfl rfl (by simp only [TV.mv, TV.wf]) rfl rfl fun v hv => by simp only [TV.mv, TV.pv, VR] at hv ⊢; exact hv
 | .nilp, _ => .cell rfl rfl (by simp only [TV.mv, TV.wf]) rfl rfl fun v hv => by simp only [TV.mv, TV.pv, VR] at hv ⊢; exact hv
 | .nilf, _ | .yl _, _ => .cell rfl rfl (by simp only [TV.mv, TV.wf]) rfl rfl fun v hv => by simp only [TV.mv, TV.pv, VR] at hv ⊢; exact hv
 | .nili, _ => .cell rfl rfl (by simp only [TV.mv, TV.wf]) rfl rfl fun v hv => by simp only [TV.mv, TV.pv, VR] at hv ⊢; exact hv
 | .nilm, _ => .cell rfl rfl (by simp only [TV.mv, TV.wf]) rfl rfl fun v hv => by simp only [TV.mv, TV.pv, VR] at hv ⊢; exact hv
 | .mp b, _ => by
  have hh : ∀ v, VR w c (PV.mp b) v -> VR w' c' (match (g b).name with | some j => PV.mp j | none => .one) v := fun v hv => by
   have := VR.move H.base _ hv;simp only [PV.ren] at this;exact this
  simp only [TV.mv];cases hb : g b with
  | to j => exact .cell rfl rfl trivial rfl rfl fun v hv => by have := hh v (by simpa only [TV.pv] using hv); rw [hb] at this; simpa only [TV.pv, Fate.name] using this
  | gone => exact .cell rfl rfl trivial rfl rfl fun v hv => by have := hh v (by simpa only [TV.pv] using hv); rw [hb] at this; simpa only [TV.pv, Fate.name] using this
  | fz o => exact .cell rfl rfl trivial rfl rfl fun v hv => by have := hh v (by simpa only [TV.pv] using hv); rw [hb] at this; simpa only [TV.pv, Fate.name] using this
 | .dead, _ => ⟨by simp only [TV.mv, TV.wf], fun v _ => by simp only [TV.mv, TV.pv, VR], fun f hf => by
   simp only [TV.mv, TV.cells, TV.pv, cellsOf] at hf ⊢;rw [zde] at hf ⊢;obtain ⟨v, e, _⟩ := hf;exact ⟨v, e, by simp only [VR]⟩, rfl, fun h => h, fun h => by cases h⟩
theorem zl4 {g : Nat -> Fate} {w : World} {c : Cx} {w' : World} {c' : Cx} (H : MvH g w c w' c') : ∀ ts : List TV, TV.wfs ts ->
  TV.wfs (mvs g ts) /\ (∀ f, VRs w c (TV.cellsL ts) f -> VRs w' c' (TV.cellsL (mvs g ts)) f) /\ (zd (TV.cellsL ts) -> zd (TV.cellsL (mvs g ts))) /\ (TV.cellsL (mvs g ts)).length = (TV.cellsL ts).length
 | [], _ => ⟨by simp only [mvs, TV.wfs], fun f _ => by simp only [mvs, TV.cellsL, VRs], fun h => h, rfl⟩
 | t :: ts, hw => by
  simp only [TV.wfs] at hw;have h := vc H t hw.1;obtain ⟨h1, h2, h3, h4⟩ := zl4 H ts hw.2;simp only [mvs];refine ⟨by simp only [TV.wfs]; exact ⟨h.wf, h1⟩, fun f hf => ?_, fun hf => ?_, ?_⟩
  ·rw [zZ] at hf ⊢;obtain ⟨a, b⟩ := zhx hf;refine z5z (h.cells _ a) ?_;rw [h.len]; exact h2 _ b
  ·rw [zZ] at hf ⊢;intro p hp;rcases kH.1 hp with hp | hp
   ·exact h.leafs (fun q hq => hf q (kT _ hq)) p hp
   ·exact h3 (fun q hq => hf q (kP _ hq)) p hp
  ·rw [zZ, zZ, kN, kN, h.len, h4]
theorem z6m {g : Nat -> Fate} {w : World} {c : Cx} {w' : World} {c' : Cx} (H : MvH g w c w' c') : ∀ ts : List TV, TV.wfs ts ->
  TV.wfs (mvs g ts) /\ (∀ f, VRs w c (TV.pvs ts) f -> VRs w' c' (TV.pvs (mvs g ts)) f) /\ (TV.pvs (mvs g ts)).length = (TV.pvs ts).length
 | [], _ => ⟨by simp only [mvs, TV.wfs], fun f _ => by simp only [mvs, TV.pvs, VRs], rfl⟩
 | t :: ts, hw => by
  simp only [TV.wfs] at hw;have h := vc H t hw.1;obtain ⟨h1, h2, h3⟩ := z6m H ts hw.2;simp only [mvs];refine ⟨by simp only [TV.wfs]; exact ⟨h.wf, h1⟩, fun f hf => ?_, by simp only [TV.pvs, kR, h3]⟩
  simp only [TV.pvs, VRs] at hf ⊢;obtain ⟨⟨v, e, hv⟩, hr⟩ := hf;exact ⟨⟨v, e, h.pv v hv⟩, h2 _ hr⟩
end
theorem zui {r : Rt} {p : List Stp} {l : List u.T} (hw : o.wf) (h : zhq o r p u = some l) : ∀ x, x ∈ l -> wfU u x := (zig hw h).wf
theorem zf9 {r : Rt} {p : List Stp} {lo n : Nat} (hw : o.wf) : (zdx o r p u lo n).wf /\ (zdx o r p u lo n).stores = true /\ zd (zdx o r p u lo n).cells := by
 unfold zdx;cases h : zhq o r p u with
 | none => exact ⟨z40, rfl, fun q hq => by simp [TV.cells, TV.pv, cellsOf] at hq; subst hq; rfl⟩
 | some l => exact ⟨by simp only [TV.wf]; exact zui hw h, rfl, fun q hq => by simp [TV.cells, TV.pv, cellsOf] at hq; subst hq; rfl⟩
theorem zf1 {r : Rt} {p : List Stp} (hw : o.wf) : (zdr o r p).wf /\ (zdr o r p).stores = true /\ zd (zdr o r p).cells := by
 have hone : TV.one.wf /\ TV.one.stores = true /\ zd TV.one.cells := ⟨z40, rfl, fun q hq => by simp [TV.cells, TV.pv, cellsOf] at hq; subst hq; rfl⟩
 cases o with
 | row u l => exact hone
 | var t =>
  simp only [zdr];cases hc : r.beq (Ob.var t).lay with
  | false => exact hone
  | true =>
   simp only [cond_true];cases hf : z5r t p with
   | none => exact hone
   | some t' =>
    simp only;cases hs : t'.stores with
    | false => exact hone
    | true =>
     have hg2 := zeu hw.1 hf;exact ⟨by simp only [cond_true, TV.wf]; exact ⟨hg2.wf, xh hg2.wf hs⟩, rfl, fun q hq => by simp [TV.cells, TV.pv, cellsOf] at hq; subst hq; rfl⟩
mutual
theorem zcq {g : Nat -> Fate} (hg : ∀ b o, g b = .fz o -> o.wf) : ∀ t : TV, t.wf -> (t.mv g).wf /\ (t.stores = true -> (t.mv g).stores = true) /\ (zd t.cells -> zd (t.mv g).cells)
 | .v _ _, h | .nil, h | .fsl _ _, h | .osf _ _ _ _, h | .one, h | .nilp, h | .nilf, h | .yl _, h | .nili, h | .nilm, h | .dead, h => ⟨h, id, id⟩
 | .mp b, h => by
  simp only [TV.mv];cases hb : g b with
  | to j => exact ⟨by simp only [TV.wf], fun _ => rfl, fun _ q hq => by simp [TV.cells, TV.pv, cellsOf] at hq; subst hq; rfl⟩
  | gone => exact ⟨z40, fun _ => rfl, fun _ q hq => by simp [TV.cells, TV.pv, cellsOf] at hq; subst hq; rfl⟩
  | fz o => exact ⟨z40, fun _ => rfl, fun _ q hq => by simp [TV.cells, TV.pv, cellsOf] at hq; subst hq; rfl⟩
 | .ptr b r p, h => by
  simp only [TV.mv];cases hb : g b with
  | to j => exact ⟨by simp only [TV.wf], fun _ => rfl, fun _ q hq => by simp [TV.cells, TV.pv, cellsOf] at hq; subst hq; rfl⟩
  | gone => exact ⟨z40, fun _ => rfl, fun _ q hq => by simp [TV.cells, TV.pv, cellsOf] at hq; subst hq; rfl⟩
  | fz o => exact ⟨(zf1 (hg b o hb)).1, fun _ => (zf1 (hg b o hb)).2.1, fun _ => (zf1 (hg b o hb)).2.2⟩
 | .os b r p u lo n, h => by
  simp only [TV.mv];cases hb : g b with
  | to j => exact ⟨by simp only [TV.wf], fun _ => rfl, fun _ q hq => by simp [TV.cells, TV.pv, cellsOf] at hq; subst hq; rfl⟩
  | gone => exact ⟨z40, fun _ => rfl, fun _ q hq => by simp [TV.cells, TV.pv, cellsOf] at hq; subst hq; rfl⟩
  | fz o => exact ⟨(zf9 (hg b o hb)).1, fun _ => (zf9 (hg b o hb)).2.1, fun _ => (zf9 (hg b o hb)).2.2⟩
 | .rf t, h => by
  simp only [TV.wf] at h;have ih := zcq hg t h.1;exact ⟨by simp only [TV.mv, TV.wf]; exact ⟨ih.1, ih.2.2 h.2⟩, fun _ => rfl, fun _ q hq => by simp [TV.mv, TV.cells, TV.pv, cellsOf] at hq; subst hq; rfl⟩
 | .agg ts, h => by
  simp only [TV.wf] at h;have ih := z4h hg ts h.2.1;refine ⟨by simp only [TV.mv, TV.wf]; exact ⟨by cases ts with | nil => exact absurd rfl h.1 | cons a l => simp [mvs], ih.1, ih.2 h.2.2⟩, fun _ => rfl, fun hl => ?_⟩
  simp only [TV.mv, TV.cells, TV.pv, cellsOf] at hl ⊢;exact ih.2 hl
 | .tup ts, h => by
  simp only [TV.wf] at h;refine ⟨by simp only [TV.mv, TV.wf]; exact (z4h hg ts h).1, (fun h => by cases h), fun hl => ?_⟩
  simp only [TV.cells, TV.pv, cellsOf] at hl;exact absurd (hl _ (kO.2 rfl)) (by simp [leaf])
 | .fn f ts, h => by
  simp only [TV.wf] at h;exact ⟨by simp only [TV.mv, TV.wf]; exact (z4h hg ts h).1, fun _ => rfl, fun _ q hq => by simp [TV.mv, TV.cells, TV.pv, cellsOf] at hq; subst hq; rfl⟩
 | .ifc t x, h => by
  simp only [TV.wf] at h;exact ⟨by simp only [TV.mv, TV.wf]; exact (zcq hg x h).1, fun _ => rfl, fun _ q hq => by simp [TV.mv, TV.cells, TV.pv, cellsOf] at hq; subst hq; rfl⟩
theorem z4h {g : Nat -> Fate} (hg : ∀ b o, g b = .fz o -> o.wf) : ∀ ts : List TV, TV.wfs ts -> TV.wfs (mvs g ts) /\ (zd (TV.cellsL ts) -> zd (TV.cellsL (mvs g ts)))
 | [], _ => ⟨by simp only [mvs, TV.wfs], id⟩
 | t :: ts, h => by
  simp only [TV.wfs] at h;have h1 := zcq hg t h.1;have h2 := z4h hg ts h.2;simp only [mvs];refine ⟨by simp only [TV.wfs]; exact ⟨h1.1, h2.1⟩, fun hl => ?_⟩
  rw [zZ] at hl ⊢;intro p hp;rcases kH.1 hp with hp | hp
  ·exact h1.2.2 (fun q hq => hl q (kT _ hq)) p hp
  ·exact h2.2 (fun q hq => hl q (kP _ hq)) p hp
end
theorem z50 {g : Nat -> Fate} (hg : ∀ b o, g b = .fz o -> o.wf) (t : TV) (h : t.wf) : (t.mv g).wf /\ (t.stores = true -> (t.mv g).stores = true) := ⟨(zcq hg t h).1, (zcq hg t h).2.1⟩
@[reducible] def LT : List U -> Type
 | [] => Unit
 | [u] => u.T
 | u :: v :: r => u.T × LT (v :: r)
def vp {R : Type} : (l : List U) -> List TV -> (LT l -> Option R) -> Option R
 | [], [], k => k ()
 | [u], [t], k => yT t u k
 | u :: v :: r, t :: ts, k => yT t u fun x => vp (v :: r) ts fun y => k (x, y)
 | _, _, _ => none
def yj : (l : List U) -> LT l -> List TV
 | [], _ => []
 | [u], x => [.v u x]
 | u :: v :: r, x => .v u x.1 :: yj (v :: r) x.2
structure Sld (t s : TV) : Prop where
 wf : s.wf
 pv : PLe t.pv s.pv
 cells : CLe t.cells s.cells
 data : ∃ u y, s = .v u y
 same : ∀ u x, t = .v u x -> s = t
variable {r : R}
theorem zr7 {u' u : U} {x : u'.T} {k : u.T -> Option R} (h : xV u' u x k = some r) : ∃ y, k y = some r /\ TV.v u y = TV.v u' x := by
 obtain ⟨rfl, h⟩ := yg h;exact ⟨x, h, rfl⟩
theorem zln {k : u.T -> Option R} (hw : t.wf) (h : yT t u k = some r) : ∃ x, k x = some r /\ Sld t (.v u x) := by
 by_cases hv : ∃ u' x', t = .v u' x'
 ·obtain ⟨u', x', rfl⟩ := hv;simp only [yT] at h;obtain ⟨y, h1, h2⟩ := zr7 h;exact ⟨y, h1, by rw [h2]; exact hw, by rw [h2]; exact PLe.refl _, by rw [h2]; exact CLe.refl _, ⟨_, _, rfl⟩, fun _ _ _ => h2⟩
 ·obtain ⟨x, h1, h2, h3, h4⟩ := z8h t u hw h;exact ⟨x, h1, by simpa only [TV.wf] using h2, h3, by rw [xW u x h2]; exact h4, ⟨_, _, rfl⟩, fun a b e => absurd ⟨a, b, e⟩ hv⟩
theorem z6e {R : Type} : ∀ (l : List U) (ts : List TV) {k : LT l -> Option R} {r : R}, (∀ t, t ∈ ts -> t.wf) -> vp l ts k = some r ->
  ∃ x, k x = some r /\ ts.length = l.length /\ (yj l x).length = ts.length /\ ∀ (i : Nat) t s, ts[i]? = some t -> (yj l x)[i]? = some s -> Sld t s
 | [], [], k, r, _, h => ⟨(), by simpa only [vp] using h, rfl, rfl, fun i t s h => by simp at h⟩
 | [u], [t], k, r, hw, h => by
  simp only [vp] at h;obtain ⟨x, h1, h2⟩ := zln (hw t (by simp)) h
  refine ⟨x, h1, rfl, rfl, fun i t' s ht hs => ?_⟩
  cases i with
  | zero =>
   simp only [kF, Option.some.injEq] at ht;simp only [yj, kF, Option.some.injEq] at hs;subst ht; subst hs;exact h2
  | succ i => simp at ht
 | u :: v :: l, t :: ts, k, r, hw, h => by
  simp only [vp] at h;obtain ⟨x, h1, h2⟩ := zln (hw t (by simp)) h
  obtain ⟨y, g1, g2, g3, g4⟩ := z6e (v :: l) ts (fun s hs => hw s (by simp [hs])) h1
  refine ⟨(x, y), g1, by simp [g2], by simp only [yj, kR, g3], fun i t' s ht hs => ?_⟩
  cases i with
  | zero =>
   simp only [kF, Option.some.injEq] at ht;simp only [yj, kF, Option.some.injEq] at hs;subst ht; subst hs;exact h2
  | succ i => exact g4 i t' s (by simpa using ht) (by simpa [yj] using hs)
 | [], _ :: _, _, _, _, h => by simp [vp] at h
 | [_], [], _, _, _, h => by simp [vp] at h
 | [_], _ :: _ :: _, _, _, _, h => by simp [vp] at h
 | _ :: _ :: _, [], _, _, _, h => by simp [vp] at h
inductive Pat where
 | d (u : U)
 | pt (j : Nat) (r : Rt) (p : List Stp)
 | wn (j : Nat) (u : U)
 | wa (j : Nat) (r : Rt) (p : List Stp) (u : U) (lo n : Nat)
 | ws (j : Nat) (u : U)
 | fs (u : U)
 | rf (q : Pat)
 | ag (l : List Pat)
 | tu (l : List Pat)
 | fn (f : FuncId) (l : List Pat)
 | c (t : TV)
 | on
mutual
def Pat.codes : Pat -> List U
 | .d u => [u]
 | .fs u => [.sl u]
 | .ws _ _ => [.sl .bool]
 | .rf q => q.codes
 | .ag l => zi l
 | .tu l => zi l
 | .fn _ l => zi l
 | _ => []
def zi : List Pat -> List U
 | [] => []
 | q :: l => q.codes ++ zi l
end
def qm : List Stp -> List Stp -> Bool
 | [], [] => true
 | .fld i :: p, .fld j :: q => kB i j && qm p q
 | .idx i :: p, .idx j :: q => kB i j && qm p q
 | _, _ => false
theorem z6h : ∀ {p q : List Stp}, qm p q = true -> p = q
 | [], [], _ => rfl
 | .fld i :: p, .fld j :: q, h => by
  simp only [qm, kC] at h;rw [kA h.1, z6h h.2]
 | .idx i :: p, .idx j :: q, h => by
  simp only [qm, kC] at h;rw [kA h.1, z6h h.2]
 | [], _ :: _, h => by simp [qm] at h
 | .fld _ :: _, [], h => by simp [qm] at h
 | .idx _ :: _, [], h => by simp [qm] at h
 | .fld _ :: _, .idx _ :: _, h => by simp [qm] at h
 | .idx _ :: _, .fld _ :: _, h => by simp [qm] at h
def zb9 : TV -> TV -> Bool
 | .nil, .nil => true
 | .nilp, .nilp => true
 | .nilf, .nilf => true
 | .yl a, .yl b => kB a b
 | .nili, .nili => true
 | .nilm, .nilm => true
 | .mp a, .mp b => kB a b
 | .one, .one => true
 | .fn f [], .fn g [] => kB f g
 | _, _ => false
theorem zta {a b : TV} (h : zb9 a b = true) : a = b := by
 unfold zb9 at h;split at h <;> first | rfl | (cases h; done) | (rw [kA h])
def jp : (us : Us) -> us.T -> List TV
 | .one u, x => [.v u x]
 | .cons u us, x => .v u x.1 :: jp us x.2
def TV.leafB : TV -> Bool
 | .v u _ => !u.isAgg
 | .agg _ | .tup _ | .dead => false
 | _ => true
mutual
def zh : Pat -> TV -> Option (List TV)
 | .d _, t => some [t]
 | .fs _, .fsl u l => some [.v (.sl u) l]
 | .fs u, .nil => some [.v (.sl u) []]
 | .rf q, .rf t => zh q t
 | .pt j r p, .ptr j' r' p' => bif kB j j' && r.beq r' && qm p p' then some [] else none
 | .wa j r p u lo n, .os j' r' p' u' lo' n' => bif kB j j' && r.beq r' && qm p p' && u.beq u' && kB lo lo' && kB n n' then some [] else none
 | .wn j u, .os j' _ [] u' lo _ => bif kB j j' && u.beq u' && kB lo 0 then some [] else none
 | .wn _ _, .nil => some []
 | .ws j u, .os j' _ [] u' lo n => bif kB j j' && u.beq u' && kB lo 0 then some [.v (.sl .bool) (List.replicate n true)] else none
 | .ws _ _, .nil => some [.v (.sl .bool) []]
 | .ag l, .agg ts => yG l ts
 | .ag l, .v (.st us) x => yG l (jp us x)
 | .tu l, .tup ts => yG l ts
 | .fn f l, .fn f' ts => bif kB f f' then yG l ts else none
 | .c t, t' => bif zb9 t t' then some [] else none
 | .on, t => bif t.leafB then some [] else none
 | _, _ => none
def yG : List Pat -> List TV -> Option (List TV)
 | [], [] => some []
 | q :: l, t :: ts => match zh q t, yG l ts with
  | some a, some b => some (a ++ b)
  | _, _ => none
 | _, _ => none
end
mutual
def vJ : Pat -> TV -> List (Nat × Nat)
 | .rf q, .rf t => vJ q t
 | .wn j _, .os _ _ _ _ _ n => [(j, n)]
 | .wn j _, .nil => [(j, 0)]
 | .ag l, .agg ts => jQ l ts
 | .ag l, .v (.st us) x => jQ l (jp us x)
 | .tu l, .tup ts => jQ l ts
 | .fn _ l, .fn _ ts => jQ l ts
 | _, _ => []
def jQ : List Pat -> List TV -> List (Nat × Nat)
 | q :: l, t :: ts => vJ q t ++ jQ l ts
 | _, _ => []
end
mutual
def ju (lens : Nat -> Nat) : Pat -> List TV -> TV × List TV
 | .d _, s :: ss => (s, ss)
 | .fs _, .v (.sl u) l :: ss => (.fsl u l, ss)
 | .rf q, ss => match ju lens q ss with | (t, r) => (.rf t, r)
 | .pt j r p, ss => (.ptr j r p, ss)
 | .wa j r p u lo n, ss => (.os j r p u lo n, ss)
 | .wn j u, ss => (.os j (.row u.canon) [] u 0 (lens j), ss)
 | .ws j u, .v (.sl .bool) l :: ss => (.os j (.row u.canon) [] u 0 (kJ l), ss)
 | .ag l, ss => match z4u lens l ss with | (ts, r) => (.agg ts, r)
 | .tu l, ss => match z4u lens l ss with | (ts, r) => (.tup ts, r)
 | .fn f l, ss => match z4u lens l ss with | (ts, r) => (.fn f ts, r)
 | .c t, ss => (t, ss)
 | .on, ss => (.one, ss)
 | _, ss => (.dead, ss)
def z4u (lens : Nat -> Nat) : List Pat -> List TV -> List TV × List TV
 | [], ss => ([], ss)
 | q :: l, ss => match ju lens q ss with | (t, r) => match z4u lens l r with | (ts, r2) => (t :: ts, r2)
end
structure Fits (t t' : TV) : Prop where
 wf : t'.wf
 st : t.stores = true -> t'.stores = true
 pv : PLe t.pv t'.pv
 cells : CLe t.cells t'.cells
theorem Fits.refl {t : TV} (h : t.wf) : Fits t t := ⟨h, id, PLe.refl _, CLe.refl _⟩
theorem zgt (h : zd t.cells) : t.stores = true := by
 cases t <;> first | rfl | (have := h _ (kO.2 rfl); simp [TV.cells, TV.pv, cellsOf, leaf] at this)
theorem Fits.leafs {t t' : TV} (h : Fits t t') (hl : zd t.cells) : zd t'.cells := xh h.wf (h.st (zgt hl))
theorem zn3 (r : Rt) : r.off [] = 0 := by cases r <;> rfl
theorem zat : ∀ (us : Us) (x : us.T), yV us x -> TV.wfs (jp us x) /\ TV.cellsL (jp us x) = zI us x /\ jp us x ≠ [] /\ ∀ t, t ∈ jp us x -> t.stores = true
 | .one u, x, h => by
  simp only [yV] at h;refine ⟨by simp only [jp, TV.wfs, TV.wf]; exact ⟨h, trivial⟩, ?_, by simp [jp], fun t ht => by simp only [jp, kO] at ht; subst ht; rfl⟩
  simp only [jp, zZ, xW u x h, TV.cellsL, zI, List.append_nil]
 | .cons u us, x, h => by
  simp only [yV] at h;obtain ⟨h1, h2, h3, h4⟩ := zat us x.2 h.2;refine ⟨by simp only [jp, TV.wfs, TV.wf]; exact ⟨h.1, h1⟩, ?_, by simp [jp], fun t ht => ?_⟩
  ·simp only [jp, zZ, xW u x.1 h.1, h2, zI]
  ·simp only [jp, kb] at ht;rcases ht with rfl | ht
   ·rfl
   ·exact h4 t ht
def SldL (ls ss : List TV) : Prop := ls.length = ss.length /\ ∀ (i : Nat) t s, ls[i]? = some t -> ss[i]? = some s -> Sld t s
theorem SldL.split {a b ss : List TV} (h : SldL (a ++ b) ss) : SldL a (ss.take a.length) /\ SldL b (ss.drop a.length) := by
 obtain ⟨h1, h2⟩ := h;rw [kN] at h1;refine ⟨⟨by rw [kc]; omega, fun i t s ht hs => ?_⟩, ⟨by rw [kS]; omega, fun i t s ht hs => ?_⟩⟩
 ·rw [k9] at hs;split at hs
  ·rename_i hi; exact h2 i t s (by rw [List.getElem?_append_left hi]; exact ht) hs
  ·cases hs
 ·rw [k8] at hs;exact h2 (a.length + i) t s (by rw [List.getElem?_append_right (by omega), Nat.add_sub_cancel_left]; exact ht) hs
def GuardsOK (lens : Nat -> Nat) (gs : List (Nat × Nat)) : Prop := ∀ j n, (j, n) ∈ gs -> n = lens j
theorem GuardsOK.split {lens : Nat -> Nat} {a b : List (Nat × Nat)} (h : GuardsOK lens (a ++ b)) : GuardsOK lens a /\ GuardsOK lens b :=
 ⟨fun j n hm => h j n (kT _ hm), fun j n hm => h j n (kP _ hm)⟩
theorem zj2 (hw : t.wf) (h : t.leafB = true) : leaf t.pv = true /\ t.cells = [t.pv] := by
 cases t <;> first | (cases h; done) | exact ⟨rfl, rfl⟩ | skip
 rename_i u x;simp only [TV.leafB, kV] at h;simp only [TV.wf] at hw;refine ⟨?_, by rw [xW u x hw]; simp only [TV.pv, z4m x h]⟩
 have := vA u x hw;rw [z4m x h] at this;exact this _ (kO.2 rfl)
theorem Fits.cell {t t' : TV} (h1 : t.cells = [t.pv]) (h2 : t'.cells = [t'.pv]) (hw : t'.wf) (hs : t'.stores = true) (h : PLe t.pv t'.pv) : Fits t t' :=
 ⟨hw, fun _ => hs, h, by rw [h1, h2]; exact z96 h⟩
theorem zuw {f : FuncId} {ps qs : List PV} (h : CLe ps qs) : PLe (.fn f ps) (.fn f qs) := by
 intro w c v hg hv;simp only [VR] at hv ⊢;obtain ⟨cv, h1, h2, h3⟩ := hv;exact ⟨cv, h1, by rw [<- h.1]; exact h2, jk hg h h3⟩
theorem zmr {ps qs : List PV} (h : CLe ps qs) : PLe (.tup ps) (.tup qs) := by
 intro w c v hg hv;simp only [VR] at hv ⊢;obtain ⟨cv, h1, h2, h3⟩ := hv;exact ⟨cv, h1, by rw [<- h.1]; exact h2, jk hg h h3⟩
theorem ztu {ps qs : List PV} (h : CLe ps qs) (hl : zd qs) : PLe (.fz ps) (.fz qs) := by
 intro w c v hg hv;simp only [VR] at hv ⊢;obtain ⟨a, h1, h2, _, h3⟩ := hv;exact ⟨a, h1, by rw [<- h.1]; exact h2, hl, jk hg h h3⟩
structure FitsL (ts ts' : List TV) : Prop where
 wf : TV.wfs ts'
 len : ts'.length = ts.length
 cells : CLe (TV.cellsL ts) (TV.cellsL ts')
 pvs : CLe (TV.pvs ts) (TV.pvs ts')
 leafs : zd (TV.cellsL ts) -> zd (TV.cellsL ts')
mutual
theorem zc4 {lens : Nat -> Nat} : ∀ (q : Pat) (t : TV) {ls ss : List TV} (rest : List TV), t.wf -> zh q t = some ls -> SldL ls ss -> GuardsOK lens (vJ q t) -> ∃ t', ju lens q (ss ++ rest) = (t', rest) /\ Fits t t'
 | .d u, t, ls, ss, rest, hw, hl, hs, hg => by
  simp only [zh, Option.some.injEq] at hl;subst hl;obtain ⟨h1, h2⟩ := hs;cases ss with
  | nil => simp at h1
  | cons s ss =>
   cases ss with
   | cons _ _ => simp at h1
   | nil =>
    have h := h2 0 t s rfl rfl;refine ⟨s, by simp only [kQ, kI, ju], h.wf, fun _ => ?_, h.pv, h.cells⟩
    obtain ⟨u', y, rfl⟩ := h.data;rfl
 | .fs u, t, ls, ss, rest, hw, hl, hs, hg => by
  have key : ∀ (u' : U) (l : List u'.T), (∀ x, x ∈ l -> wfU u' x) -> ls = [.v (.sl u') l] -> PLe t.pv (TV.fsl u' l).pv -> t.cells = [t.pv] -> ∃ t', ju lens (.fs u) (ss ++ rest) = (t', rest) /\ Fits t t' := by
   intro u' l hwl he hp hc;subst he;obtain ⟨h1, h2⟩ := hs;cases ss with
   | nil => simp at h1
   | cons s ss =>
    cases ss with
    | cons _ _ => simp at h1
    | nil =>
     have h := (h2 0 _ s rfl rfl).same _ _ rfl;subst h;exact ⟨.fsl u' l, by simp only [kQ, kI, ju], .cell hc rfl (by simp only [TV.wf]; exact hwl) rfl hp⟩
  cases t <;> (try simp only [zh] at hl) <;> first | (cases hl; done) | skip
  ·simp only [Option.some.injEq] at hl;refine key u [] (fun x hx => by cases hx) hl.symm ?_ rfl
   simp only [TV.pv, zj, List.length_nil, List.flatMap_nil]; exact PLe.refl _
  ·simp only [Option.some.injEq] at hl;simp only [TV.wf] at hw;exact key _ _ hw hl.symm (PLe.refl _) rfl
 | .rf q, t, ls, ss, rest, hw, hl, hs, hg => by
  cases t <;> (try simp only [zh] at hl) <;> first | (cases hl; done) | skip
  rename_i t;simp only [TV.wf] at hw;simp only [vJ] at hg;obtain ⟨t', h1, h2⟩ := zc4 q t rest hw.1 hl hs hg;have hlf := h2.leafs hw.2;refine ⟨.rf t', by simp only [ju, h1], .cell rfl rfl (by simp only [TV.wf]; exact ⟨h2.wf, hlf⟩) rfl ?_⟩
  simp only [TV.pv];exact ztu h2.cells hlf
 | .pt j r p, t, ls, ss, rest, hw, hl, hs, hg => by
  cases t <;> (try simp only [zh] at hl) <;> first | (cases hl; done) | skip
  rename_i b r' p';cases hc : kB j b && r.beq r' && qm p p' with
  | false => rw [hc] at hl; cases hl
  | true =>
   rw [hc] at hl;cases hl;simp only [kC] at hc;have e1 := kA hc.1.1;have e2 := Rt.beq_eq hc.1.2;have e3 := z6h hc.2;subst e1; subst e2; subst e3;have : ss = [] := kD hs.1.symm;subst this;exact ⟨_, by simp only [ju, kI], Fits.refl hw⟩
 | .wa j r p u lo n, t, ls, ss, rest, hw, hl, hs, hg => by
  cases t <;> (try simp only [zh] at hl) <;> first | (cases hl; done) | skip
  rename_i b r' p' u' lo' n';cases hc : kB j b && r.beq r' && qm p p' && u.beq u' && kB lo lo' && kB n n' with
  | false => rw [hc] at hl; cases hl
  | true =>
   rw [hc] at hl;cases hl;simp only [kC] at hc;obtain ⟨⟨⟨⟨⟨c1, c2⟩, c3⟩, c4⟩, c5⟩, c6⟩ := hc;have e1 := kA c1;have e2 := Rt.beq_eq c2;have e3 := z6h c3;have e4 := U.beq_eq c4;have e5 := kA c5;have e6 := kA c6;subst e1; subst e2; subst e3; subst e4; subst e5; subst e6;have : ss = [] := kD hs.1.symm;subst this;exact ⟨_, by simp only [ju, kI], Fits.refl hw⟩
 | .wn j u, t, ls, ss, rest, hw, hl, hs, hg => by
  cases t <;> (try simp only [zh] at hl) <;> first | (cases hl; done) | skip
  ·cases hl;have : ss = [] := kD hs.1.symm;subst this;have hn := hg j 0 (by simp [vJ])
   refine ⟨.os j (.row u.canon) [] u 0 (lens j), by simp only [ju, kI], .cell rfl rfl (by simp only [TV.wf]) rfl ?_⟩
   simp only [TV.pv, <- hn];intro w c v _ hv;simp only [VR] at hv ⊢;rcases hv with ⟨h1, _⟩ | ⟨ad, cap, h1, _, _, h2, _⟩
   ·exact .inl ⟨⟨none, h1⟩, trivial⟩
   ·have : cap = 0 := h2;exact .inl ⟨⟨_, by rw [h1, this]⟩, trivial⟩
  ·rename_i b r p u' lo n;cases p with
   | cons _ _ => simp only [zh] at hl; cases hl
   | nil =>
    simp only [zh] at hl;cases hc : kB j b && u.beq u' && kB lo 0 with
    | false => rw [hc] at hl; cases hl
    | true =>
     rw [hc] at hl;cases hl;simp only [kC] at hc;have e1 := kA hc.1.1;have e2 := U.beq_eq hc.1.2;have e3 := kA hc.2;subst e1; subst e2; subst e3;have : ss = [] := kD hs.1.symm;subst this;have hn := hg j n (by simp [vJ])
     subst hn;refine ⟨.os j (.row u.canon) [] u 0 (lens j), by simp only [ju, kI], .cell rfl rfl (by simp only [TV.wf]) rfl ?_⟩
     simp only [TV.pv, zn3, km, Nat.add_zero];exact PLe.refl _
 | .ws j u, t, ls, ss, rest, hw, hl, hs, hg => by
  have key : ∀ l : List Bool, ls = [.v (.sl .bool) l] -> PLe t.pv (TV.os j (.row u.canon) [] u 0 l.length).pv -> t.cells = [t.pv] -> ∃ t', ju lens (.ws j u) (ss ++ rest) = (t', rest) /\ Fits t t' := by
   intro l he hp hc;subst he;obtain ⟨h1, h2⟩ := hs;cases ss with
   | nil => simp at h1
   | cons s ss =>
    cases ss with
    | cons _ _ => simp at h1
    | nil =>
     have h := (h2 0 _ s rfl rfl).same _ _ rfl;subst h;exact ⟨.os j (.row u.canon) [] u 0 l.length, by simp only [kQ, kI, ju], .cell hc rfl (by simp only [TV.wf]) rfl hp⟩
  cases t <;> (try simp only [zh] at hl) <;> first | (cases hl; done) | skip
  ·simp only [Option.some.injEq] at hl;refine key [] hl.symm ?_ rfl;simp only [TV.pv, List.length_nil];intro w c v _ hv;simp only [VR] at hv ⊢;rcases hv with ⟨h1, _⟩ | ⟨ad, cap, h1, _, _, h2, _⟩
   ·exact .inl ⟨⟨none, h1⟩, trivial⟩
   ·have : cap = 0 := h2;exact .inl ⟨⟨_, by rw [h1, this]⟩, trivial⟩
  ·rename_i b r p u' lo n;cases p with
   | cons _ _ => simp only [zh] at hl; cases hl
   | nil =>
    simp only [zh] at hl;cases hc : kB j b && u.beq u' && kB lo 0 with
    | false => rw [hc] at hl; cases hl
    | true =>
     rw [hc] at hl;simp only [cond_true, Option.some.injEq] at hl;simp only [kC] at hc;have e1 := kA hc.1.1;have e2 := U.beq_eq hc.1.2;have e3 := kA hc.2;subst e1; subst e2; subst e3;refine key _ hl.symm ?_ rfl;simp only [TV.pv, zn3, km, Nat.add_zero, List.length_replicate];exact PLe.refl _
 | .ag l, t, ls, ss, rest, hw, hl, hs, hg => by
  have key : ∀ ts : List TV, TV.wfs ts -> ts ≠ [] -> zd (TV.cellsL ts) -> yG l ts = some ls -> GuardsOK lens (jQ l ts) -> t.cells = TV.cellsL ts -> t.pv = .agg (TV.cellsL ts) -> ∃ t', ju lens (.ag l) (ss ++ rest) = (t', rest) /\ Fits t t' := by
   intro ts h1 h2 h3 h4 h5 h6 h7;obtain ⟨ts', g1, g2⟩ := vZ l ts rest h1 h4 hs h5;have hlf := g2.leafs h3;have hne : ts' ≠ [] := fun e => h2 (kD (by rw [<- g2.len, e]; rfl))
   refine ⟨.agg ts', by simp only [ju, g1], by simp only [TV.wf]; exact ⟨hne, g2.wf, hlf⟩, fun _ => rfl, ?_, ?_⟩
   ·rw [h7]; simp only [TV.pv]; exact zdd g2.cells hlf
   ·rw [h6, jN]; exact g2.cells
  cases t <;> (try simp only [zh] at hl) <;> first | (cases hl; done) | skip
  ·rename_i u x;cases u <;> (try simp only [zh] at hl) <;> first | (cases hl; done) | skip
   rename_i us;simp only [TV.wf, wfU] at hw;obtain ⟨h1, h2, h3, h4⟩ := zat us x hw;refine key (jp us x) h1 h3 (by rw [h2]; exact z16 us x hw) hl (by simpa only [vJ] using hg) (by rw [h2, z4a]) (by rw [h2]; simp only [TV.pv, pvU, zc])
  ·rename_i ts;simp only [TV.wf] at hw;exact key ts hw.2.1 hw.1 hw.2.2 hl (by simpa only [vJ] using hg) (jN ts) (by simp only [TV.pv])
 | .tu l, t, ls, ss, rest, hw, hl, hs, hg => by
  cases t <;> (try simp only [zh] at hl) <;> first | (cases hl; done) | skip
  rename_i ts;simp only [TV.wf] at hw;simp only [vJ] at hg;obtain ⟨ts', g1, g2⟩ := vZ l ts rest hw hl hs hg;refine ⟨.tup ts', by simp only [ju, g1], by simp only [TV.wf]; exact g2.wf, (fun h => by cases h), ?_, ?_⟩
  ·simp only [TV.pv]; exact zmr g2.pvs
  ·simp only [TV.cells, TV.pv, cellsOf]; exact z96 (zmr g2.pvs)
 | .fn f l, t, ls, ss, rest, hw, hl, hs, hg => by
  cases t <;> (try simp only [zh] at hl) <;> first | (cases hl; done) | skip
  rename_i f' ts;cases hc : kB f f' with
  | false => rw [hc] at hl; cases hl
  | true =>
   rw [hc] at hl;simp only [cond_true] at hl;have e := kA hc;subst e;simp only [TV.wf] at hw;simp only [vJ] at hg;obtain ⟨ts', g1, g2⟩ := vZ l ts rest hw hl hs hg;refine ⟨.fn f ts', by simp only [ju, g1], .cell rfl rfl (by simp only [TV.wf]; exact g2.wf) rfl ?_⟩
   simp only [TV.pv]; exact zuw g2.pvs
 | .c t0, t, ls, ss, rest, hw, hl, hs, hg => by
  simp only [zh] at hl;cases hc : zb9 t0 t with
  | false => rw [hc] at hl; cases hl
  | true =>
   rw [hc] at hl;cases hl;have e := zta hc;subst e;have : ss = [] := kD hs.1.symm;subst this;exact ⟨_, by simp only [ju, kI], Fits.refl hw⟩
 | .on, t, ls, ss, rest, hw, hl, hs, hg => by
  simp only [zh] at hl;cases hc : t.leafB with
  | false => rw [hc] at hl; cases hl
  | true =>
   rw [hc] at hl;cases hl;have : ss = [] := kD hs.1.symm;subst this;obtain ⟨h1, h2⟩ := zj2 hw hc;refine ⟨.one, by simp only [ju, kI], .cell h2 rfl z40 rfl ?_⟩
   intro w c v _ hv;simp only [TV.pv, VR];exact zan h1 hv
theorem vZ {lens : Nat -> Nat} : ∀ (l : List Pat) (ts : List TV) {ls ss : List TV} (rest : List TV), TV.wfs ts -> yG l ts = some ls -> SldL ls ss -> GuardsOK lens (jQ l ts) -> ∃ ts', z4u lens l (ss ++ rest) = (ts', rest) /\ FitsL ts ts'
 | [], [], ls, ss, rest, hw, hl, hs, hg => by
  simp only [yG, Option.some.injEq] at hl;subst hl;have : ss = [] := kD hs.1.symm;subst this;exact ⟨[], by simp only [z4u, kI], by simp only [TV.wfs], rfl, CLe.refl _, CLe.refl _, id⟩
 | q :: l, t :: ts, ls, ss, rest, hw, hl, hs, hg => by
  simp only [yG] at hl;simp only [TV.wfs] at hw;simp only [jQ] at hg;split at hl
  ·rename_i a b ha hb;cases hl;obtain ⟨s1, s2⟩ := hs.split;obtain ⟨g1, g2⟩ := hg.split;obtain ⟨t', h1, h2⟩ := zc4 q t (ss.drop a.length ++ rest) hw.1 ha s1 g1;obtain ⟨ts', h3, h4⟩ := vZ l ts rest hw.2 hb s2 g2;refine ⟨t' :: ts', ?_, by simp only [TV.wfs]; exact ⟨h2.wf, h4.wf⟩, by simp [h4.len], ?_, ?_, fun hf => ?_⟩
   ·have e : ss ++ rest = ss.take a.length ++ (ss.drop a.length ++ rest) := by rw [<- List.append_assoc, kZ]
    simp only [z4u];rw [e, h1];simp only [h3]
   ·rw [zZ, zZ]; exact h2.cells.append h4.cells
   ·simp only [TV.pvs]; exact CLe.cons h2.pv h4.pvs
   ·rw [zZ] at hf ⊢;intro p hp;rcases kH.1 hp with hp | hp
    ·exact h2.leafs (fun x hx => hf x (kT _ hx)) p hp
    ·exact h4.leafs (fun x hx => hf x (kP _ hx)) p hp
  ·cases hl
 | [], _ :: _, _, _, _, _, hl, _, _ => by simp [yG] at hl
 | _ :: _, [], _, _, _, _, hl, _, _ => by simp [yG] at hl
end
inductive HPat where
 | gone
 | var (e : TypeId) (q : Pat)
 | row (e : TypeId) (u : U)
def HPat.codes : HPat -> List U
 | .gone => []
 | .var _ q => q.codes
 | .row _ u => [.sl u]
def zk7 : List HPat -> List U
 | [] => []
 | h :: l => h.codes ++ zk7 l
def z9t : HPat -> TOb -> Option (List TV)
 | .gone, .gone => some []
 | .var e q, .ob e' (.var t) => bif kB e e' then zh q t else none
 | .row e _, .ob e' (.row u l) => bif kB e e' then some [.v (.sl u) l] else none
 | .row e _, .ob e' (.var (.v (.arr _ u) l)) => bif kB e e' then some [.v (.sl u) l] else none
 | _, _ => none
def qU : List HPat -> List TOb -> Option (List TV)
 | [], [] => some []
 | h :: l, o :: os => match z9t h o, qU l os with
  | some a, some b => some (a ++ b)
  | _, _ => none
 | _, _ => none
def zhc : HPat -> TOb -> List (Nat × Nat)
 | .var _ q, .ob _ (.var t) => vJ q t
 | _, _ => []
def z2s : List HPat -> List TOb -> List (Nat × Nat)
 | h :: l, o :: os => zhc h o ++ z2s l os
 | _, _ => []
def zdi (lens : Nat -> Nat) : HPat -> List TV -> TOb × List TV
 | .gone, ss => (.gone, ss)
 | .var e q, ss => match ju lens q ss with | (t, r) => (.ob e (.var t), r)
 | .row e _, .v (.sl u) l :: ss => (.ob e (.row u l), ss)
 | .row _ _, ss => (.gone, ss)
def z3n (lens : Nat -> Nat) : List HPat -> List TV -> List TOb
 | [], _ => []
 | h :: l, ss => match zdi lens h ss with | (o, r) => o :: z3n lens l r
def zdk : List HPat -> List TV -> List Nat
 | [], _ => []
 | .gone :: l, ss => 0 :: zdk l ss
 | .var _ q :: l, ss => 0 :: zdk l (ss.drop q.codes.length)
 | .row _ _ :: l, .v (.sl u) x :: ss => kJ x :: zdk l ss
 | .row _ _ :: l, ss => 0 :: zdk l ss
def zhb : List Nat -> Nat -> Nat
 | [], _ => 0
 | n :: _, 0 => n
 | _ :: l, j + 1 => zhb l j
theorem zn1 : ∀ (l : List Nat) (j : Nat), zhb l j = l.getD j 0
 | [], j => by cases j <;> rfl
 | n :: l, 0 => rfl
 | n :: l, j + 1 => by simp only [zhb, zn1 l j]; rfl
def za4 : TOb -> TOb -> Prop
 | .ob e o, .ob e' o' => e = e' /\ o'.wf /\ CLe o.cells o'.cells /\ zd o'.cells
 | .gone, .gone => True
 | _, _ => False
theorem zo3 {lens : Nat -> Nat} {h : HPat} {o : TOb} {ls ss : List TV} (rest : List TV) (hw : o.wf) (hl : z9t h o = some ls) (hs : SldL ls ss) (hg : GuardsOK lens (zhc h o)) : ∃ o', zdi lens h (ss ++ rest) = (o', rest) /\ za4 o o' := by
 have row : ∀ (e : TypeId) (u' u : U) (l : List u.T) (ob : Ob), (∀ x, x ∈ l -> wfU u x) -> ob.cells = zj u l -> ls = [.v (.sl u) l] -> ∃ o', zdi lens (.row e u') (ss ++ rest) = (o', rest) /\ za4 (.ob e ob) o' := by
  intro e u' u l ob hwl hc he;subst he;obtain ⟨h1, h2⟩ := hs;cases ss with
  | nil => simp at h1
  | cons s ss =>
   cases ss with
   | cons _ _ => simp at h1
   | nil =>
    have h := (h2 0 _ s rfl rfl).same _ _ rfl;subst h;refine ⟨.ob e (.row u l), by simp only [kQ, kI, zdi], rfl, hwl, ?_, yQ hwl⟩
    rw [hc]; exact CLe.refl _
 unfold z9t at hl;split at hl
 ·cases hl;have : ss = [] := kD hs.1.symm;subst this;exact ⟨.gone, by simp only [zdi, kI], trivial⟩
 ·rename_i e q e' t;cases hc : kB e e' with
  | false => rw [hc] at hl; cases hl
  | true =>
   rw [hc] at hl;have e1 := kA hc;subst e1;obtain ⟨t', h1, h2⟩ := zc4 q t rest hw.1 hl hs (by simpa only [zhc] using hg)
   exact ⟨.ob e (.var t'), by simp only [zdi, h1], rfl, ⟨h2.wf, h2.st hw.2⟩, h2.cells, xh h2.wf (h2.st hw.2)⟩
 ·rename_i e u' e' u l;cases hc : kB e e' with
  | false => rw [hc] at hl; cases hl
  | true =>
   rw [hc] at hl;have e1 := kA hc;subst e1;cases hl;exact row e u' u l _ hw rfl rfl
 ·rename_i e u' e' m u l;cases hc : kB e e' with
  | false => rw [hc] at hl; cases hl
  | true =>
   rw [hc] at hl;have e1 := kA hc;subst e1;cases hl;obtain ⟨h1, h2, _⟩ := z6j hw.1;exact row e u' u l _ h1 h2 rfl
 ·cases hl
theorem z8w {lens : Nat -> Nat} : ∀ {hs : List HPat} {os : List TOb} {ls ss : List TV} (rest : List TV), (∀ o, o ∈ os -> o.wf) -> qU hs os = some ls -> SldL ls ss -> GuardsOK lens (z2s hs os) ->
  (z3n lens hs (ss ++ rest)).length = os.length /\ ∀ (i : Nat) o o', os[i]? = some o -> (z3n lens hs (ss ++ rest))[i]? = some o' -> za4 o o'
 | [], [], ls, ss, rest, _, _, _, _ => ⟨rfl, fun i o o' h => by simp at h⟩
 | h :: hs, o :: os, ls, ss, rest, hw, hl, hsl, hg => by
  simp only [qU] at hl;simp only [z2s] at hg;split at hl
  ·rename_i a b ha hb;cases hl;obtain ⟨s1, s2⟩ := hsl.split;obtain ⟨g1, g2⟩ := hg.split;obtain ⟨o', h1, h2⟩ := zo3 (ss.drop a.length ++ rest) (hw o (by simp)) ha s1 g1
   obtain ⟨h3, h4⟩ := z8w (hs := hs) rest (fun o ho => hw o (by simp [ho])) hb s2 g2
   have e : ss ++ rest = ss.take a.length ++ (ss.drop a.length ++ rest) := by rw [<- List.append_assoc, kZ]
   have e2 : z3n lens (h :: hs) (ss ++ rest) = o' :: z3n lens hs (ss.drop a.length ++ rest) := by
    simp only [z3n];rw [e, h1]
   rw [e2];refine ⟨by simp [h3], fun i x x' hx hx' => ?_⟩
   cases i with
   | zero => simp at hx hx'; subst hx; subst hx'; exact h2
   | succ i => exact h4 i x x' (by simpa using hx) (by simpa using hx')
  ·cases hl
 | [], _ :: _, _, _, _, _, hl, _, _ => by simp [qU] at hl
 | _ :: _, [], _, _, _, _, hl, _, _ => by simp [qU] at hl
def z39 {R : Type} (lens : Nat -> Nat) : List (Nat × Nat) -> Option R -> Option R
 | [], k => k
 | (j, n) :: gs, k => bif kB n (lens j) then z39 lens gs k else none
theorem z4x {R : Type} {lens : Nat -> Nat} : ∀ {gs : List (Nat × Nat)} {k : Option R} {r : R}, z39 lens gs k = some r -> k = some r /\ GuardsOK lens gs
 | [], k, r, h => ⟨h, fun j n hm => by cases hm⟩
 | (j, n) :: gs, k, r, h => by
  simp only [z39] at h;cases hc : kB n (lens j) with
  | false => rw [hc] at h; cases h
  | true =>
   rw [hc] at h;obtain ⟨h1, h2⟩ := z4x h;refine ⟨h1, fun j' n' hm => ?_⟩
   rcases kb.1 hm with hm | hm
   ·cases hm; exact kA hc
   ·exact h2 j' n' hm
mutual
theorem zcl : ∀ (q : Pat) (t : TV) {ls : List TV}, t.wf -> zh q t = some ls -> ∀ x, x ∈ ls -> x.wf
 | .d u, t, ls, hw, h => by simp only [zh, Option.some.injEq] at h; subst h; intro x hx; simp at hx; subst hx; exact hw
 | .fs u, t, ls, hw, h => by
  cases t <;> (try simp only [zh] at h) <;> first | (cases h; done) | skip
  ·simp only [Option.some.injEq] at h; subst h;intro x hx; simp at hx; subst hx;simp only [TV.wf, wfU]; intro y hy; cases hy
  ·simp only [Option.some.injEq] at h; subst h;intro x hx; simp at hx; subst hx;simp only [TV.wf] at hw;simp only [TV.wf, wfU]; exact hw
 | .rf q, t, ls, hw, h => by
  cases t <;> (try simp only [zh] at h) <;> first | (cases h; done) | skip
  simp only [TV.wf] at hw;exact zcl q _ hw.1 h
 | .pt j r p, t, ls, hw, h => by
  cases t <;> (try simp only [zh] at h) <;> first | (cases h; done) | skip
  rename_i b r' p';cases hc : kB j b && r.beq r' && qm p p' <;> rw [hc] at h <;> cases h
  intro x hx; cases hx
 | .wa j r p u lo n, t, ls, hw, h => by
  cases t <;> (try simp only [zh] at h) <;> first | (cases h; done) | skip
  rename_i b r' p' u' lo' n';cases hc : kB j b && r.beq r' && qm p p' && u.beq u' && kB lo lo' && kB n n' <;> rw [hc] at h <;> cases h
  intro x hx; cases hx
 | .wn j u, t, ls, hw, h => by
  cases t <;> (try simp only [zh] at h) <;> first | (cases h; done) | skip
  ·cases h; intro x hx; cases hx
  ·rename_i b r p u' lo n;cases p with
   | cons _ _ => simp only [zh] at h; cases h
   | nil =>
    simp only [zh] at h;cases hc : kB j b && u.beq u' && kB lo 0 <;> rw [hc] at h <;> cases h
    intro x hx; cases hx
 | .ws j u, t, ls, hw, h => by
  cases t <;> (try simp only [zh] at h) <;> first | (cases h; done) | skip
  ·simp only [Option.some.injEq] at h; subst h;intro x hx; simp at hx; subst hx;simp only [TV.wf, wfU]; intro y hy; trivial
  ·rename_i b r p u' lo n;cases p with
   | cons _ _ => simp only [zh] at h; cases h
   | nil =>
    simp only [zh] at h;cases hc : kB j b && u.beq u' && kB lo 0 <;> rw [hc] at h <;> first | (cases h; done) | skip
    simp only [cond_true, Option.some.injEq] at h;subst h;intro x hx; simp at hx; subst hx;simp only [TV.wf, wfU]; intro y hy; trivial
 | .ag l, t, ls, hw, h => by
  cases t <;> (try simp only [zh] at h) <;> first | (cases h; done) | skip
  ·rename_i u x;cases u <;> (try simp only [zh] at h) <;> first | (cases h; done) | skip
   rename_i us;simp only [TV.wf, wfU] at hw;exact vk l _ (zat us x hw).1 h
  ·simp only [TV.wf] at hw;exact vk l _ hw.2.1 h
 | .tu l, t, ls, hw, h => by
  cases t <;> (try simp only [zh] at h) <;> first | (cases h; done) | skip
  simp only [TV.wf] at hw;exact vk l _ hw h
 | .fn f l, t, ls, hw, h => by
  cases t <;> (try simp only [zh] at h) <;> first | (cases h; done) | skip
  rename_i f' ts;cases hc : kB f f' <;> rw [hc] at h <;> first | (cases h; done) | skip
  simp only [TV.wf] at hw;exact vk l _ hw h
 | .c t0, t, ls, hw, h => by
  simp only [zh] at h;cases hc : zb9 t0 t <;> rw [hc] at h <;> cases h
  intro x hx; cases hx
 | .on, t, ls, hw, h => by
  simp only [zh] at h;cases hc : t.leafB <;> rw [hc] at h <;> cases h
  intro x hx; cases hx
theorem vk : ∀ (l : List Pat) (ts : List TV) {ls : List TV}, TV.wfs ts -> yG l ts = some ls -> ∀ x, x ∈ ls -> x.wf
 | [], [], ls, hw, h => by simp only [yG, Option.some.injEq] at h; subst h; intro x hx; cases hx
 | q :: l, t :: ts, ls, hw, h => by
  simp only [yG] at h;simp only [TV.wfs] at hw;split at h
  ·rename_i a b ha hb;cases h;intro x hx;rcases kH.1 hx with hx | hx
   ·exact zcl q t hw.1 ha x hx
   ·exact vk l ts hw.2 hb x hx
  ·cases h
 | [], _ :: _, _, _, h => by simp [yG] at h
 | _ :: _, [], _, _, h => by simp [yG] at h
end
theorem zoc {h : HPat} {o : TOb} {ls : List TV} (hw : o.wf) (hl : z9t h o = some ls) : ∀ x, x ∈ ls -> x.wf := by
 unfold z9t at hl;split at hl
 ·cases hl; intro x hx; cases hx
 ·rename_i e q e' t;cases hc : kB e e' with
  | false => rw [hc] at hl; cases hl
  | true => rw [hc] at hl; exact zcl q t hw.1 hl
 ·rename_i e u' e' u l;cases hc : kB e e' with
  | false => rw [hc] at hl; cases hl
  | true =>
   rw [hc] at hl; cases hl;intro x hx; simp at hx; subst hx;simp only [TV.wf, wfU]; exact hw
 ·rename_i e u' e' m u l;cases hc : kB e e' with
  | false => rw [hc] at hl; cases hl
  | true =>
   rw [hc] at hl; cases hl;intro x hx; simp at hx; subst hx;simp only [TV.wf, wfU]; exact (z6j hw.1).1
 ·cases hl
theorem z90 : ∀ (hs : List HPat) (os : List TOb) {ls : List TV}, (∀ o, o ∈ os -> o.wf) -> qU hs os = some ls -> ∀ x, x ∈ ls -> x.wf
 | [], [], ls, hw, h => by simp only [qU, Option.some.injEq] at h; subst h; intro x hx; cases hx
 | p :: hs, o :: os, ls, hw, h => by
  simp only [qU] at h;split at h
  ·rename_i a b ha hb;cases h;intro x hx;rcases kH.1 hx with hx | hx
   ·exact zoc (hw o (by simp)) ha x hx
   ·exact z90 hs os (fun o ho => hw o (by simp [ho])) hb x hx
  ·cases h
 | [], _ :: _, _, _, h => by simp [qU] at h
 | _ :: _, [], _, _, h => by simp [qU] at h
def RelT (w : World) (c : Cx) (σ : TS) (a : Act) : Prop := c.pn = σ.p /\ RelC w c σ.flat a
variable {σ : TS} {a : Act}
theorem RelT.good (h : RelT w c σ a) : Ab.Good w c (σ.H.map TOb.flat) [] := h.2.1
theorem RelT.noT {w : World} {c : Cx} {σ : TS} {a : Act} (h : RelT w c σ a) : c.T = [] := Ab.noT h.good
theorem ExtP.refl (p : Nat) (w : World) (c : Cx) : ExtP p w c w c := ⟨rfl, rfl, rfl, kr _, fun _ h => .inl h, fun _ _ _ => rfl, rfl, rfl, fun _ _ _ h => h, fun _ vs _ fr h => ⟨vs, fr, h, rfl⟩⟩
theorem ExtP.trans {p : Nat} {w w1 w2 : World} {c c1 c2 : Cx} (h : ExtP p w c w1 c1) (g : ExtP p w1 c1 w2 c2) : ExtP p w c w2 c2 where
 os := g.os.trans h.os
 tape := g.tape.trans h.tape
 output := g.output.trans h.output
 size := Nat.le_trans h.size g.size
 new := fun k x => (g.new k x).elim (h.new k) (fun y => .inr (Nat.le_trans h.size y))
 blocks := fun k hk hm => by
  rw [g.blocks k (Nat.lt_of_lt_of_le hk h.size) (fun x => (h.new k x).elim hm (fun y => absurd hk (Nat.not_lt.2 y))), h.blocks k hk hm]
 ok := g.ok.trans h.ok
 pn := g.pn.trans h.pn
 pin := fun b k hb hm => g.pin b k hb (h.pin b k hb hm)
 room := fun k vs e fr h0 => by
  obtain ⟨vs1, fr1, h1, e1⟩ := h.room k vs e fr h0;obtain ⟨vs2, fr2, h2, e2⟩ := g.room k vs1 e fr1 h1;exact ⟨vs2, fr2, h2, e2.trans e1⟩
theorem z84 {p : Nat} {w w' : World} {c c' : Cx} (hT : c.T = []) (h : Ext w c w' c') : ExtP p w c w' c' :=
 ⟨h.os, h.tape, h.output, h.size, h.new, fun k hk hm => h.blocks k hk hm (fun i j => by rw [hT]; simp), h.ok, h.pn, fun b k _ hm => h.ids b k hm, h.room⟩
theorem RelT.p {p : Nat} {w w' : World} {c c' : Cx} {σ σ' : TS} {a a' : Act} (h : RelT w c σ a) (h' : RelT w' c' σ' a') (x : ExtP p w c w' c') : σ'.p = σ.p := by
 rw [<- h'.1, x.pn, h.1]
def OLe : AObj -> AObj -> Prop
 | .row cs e, .row ds e' => e = e' /\ CLe cs ds /\ zd ds
 | a, b => a = b
theorem Good.le {H H' : List AObj} {ts : List Bool} (g : Ab.Good w c H ts) (hl : H.length = H'.length) (h : ∀ (i : Nat) o o', H[i]? = some o -> H'[i]? = some o' -> OLe o o') : Ab.Good w c H' ts where
 len := by rw [g.len, hl]
 inj := g.inj
 obj := fun b o' ho' => by
  have hb : b < H.length := by rw [hl]; exact (kK.1 ho').1
  have ho := List.getElem?_eq_getElem hb;have hob := g.obj b _ ho;have hle := h b _ _ ho ho';generalize H[b] = o at hob hle;cases o with
  | row cs e =>
   cases o' with
   | row ds e' =>
    obtain ⟨rfl, h1, h2⟩ := hle;exact hob.to id (fun k hk => ⟨hk, rfl⟩) h1.1.symm h2 fun fv => jk ⟨_, _, g⟩ h1
   | raw _ => simp [OLe] at hle
   | gone => simp [OLe] at hle
  | raw o => 
   have : o' = .raw o := by cases o' <;> simp [OLe] at hle ⊢; exact hle.symm
   subst this; exact hob
  | gone =>
   have : o' = .gone := by cases o' <;> simp [OLe] at hle ⊢
   subst this; exact hob
 tl := g.tl
 tal := g.tal
 tdead := g.tdead
 tok := g.tok
 tinj := g.tinj
 okn := g.okn
 okm := g.okm
 okt := g.okt
 oko := g.oko
 gl := g.gl
theorem ze2 {o o' : TOb} (h : za4 o o') : OLe o.flat o'.flat := by
 cases o <;> cases o' <;> first | exact h.elim | skip
 ·obtain ⟨h1, h2, h3, h4⟩ := h;exact ⟨congrArg Knd.c h1, h3, h4⟩
 ·rfl
theorem zsl (h : o.wf) : zd o.cells := by
 cases o with
 | var t => exact xh h.1 h.2
 | row u l => exact yQ h
def z3s : List (Option Nat) -> Nat -> Nat -> Option Nat
 | [], _, _ => none
 | some b' :: r, b, j => bif kB b' b then some j else z3s r b (j + 1)
 | none :: r, b, j => z3s r b (j + 1)
theorem zcx : ∀ {ρ : List (Option Nat)} {b j i : Nat}, z3s ρ b j = some i -> j <= i /\ ρ[i - j]? = some (some b)
 | [], _, _, _, h => by simp [z3s] at h
 | some b' :: r, b, j, i, h => by
  simp only [z3s] at h;cases hb : kB b' b with
  | true =>
   rw [hb] at h;cases h;rw [kA hb];exact ⟨kr _, by simp⟩
  | false =>
   rw [hb] at h;obtain ⟨h1, h2⟩ := zcx h;exact ⟨by omega, by rw [show i - j = (i - (j + 1)) + 1 by omega]; simpa using h2⟩
 | none :: r, b, j, i, h => by
  simp only [z3s] at h;obtain ⟨h1, h2⟩ := zcx h;exact ⟨by omega, by rw [show i - j = (i - (j + 1)) + 1 by omega]; simpa using h2⟩
theorem z5d : ∀ {ρ : List (Option Nat)} {b j : Nat}, z3s ρ b j = none -> ∀ i : Nat, ρ[i]? ≠ some (some b)
 | [], _, _, _, i => by simp
 | some b' :: r, b, j, h, i => by
  simp only [z3s] at h;cases hb : kB b' b with
  | true => rw [hb] at h; cases h
  | false =>
   rw [hb] at h;cases i with
   | zero =>
    intro e;simp only [kF, Option.some.injEq] at e;subst e;rw [Nat.beq_refl] at hb; cases hb
   | succ i => simpa using z5d h i
 | none :: r, b, j, h, i => by
  simp only [z3s] at h;cases i with
  | zero => simp
  | succ i => simpa using z5d h i
def z36 : List (Option Nat) -> Bool
 | [] => true
 | some b :: r => (match z3s r b 0 with | none => true | some _ => false) && z36 r
 | none :: r => z36 r
theorem z5p : ∀ {ρ : List (Option Nat)}, z36 ρ = true -> ∀ i j b : Nat, ρ[i]? = some (some b) -> ρ[j]? = some (some b) -> i = j
 | [], _, i, j, b, h, _ => by simp at h
 | some b' :: r, h, i, j, b, hi, hj => by
  simp only [z36, kC] at h;have hn : z3s r b' 0 = none := by
   have := h.1;split at this
   ·assumption
   ·cases this
  have ih := z5p h.2;cases i with
  | zero =>
   simp only [kF, Option.some.injEq] at hi;subst hi;cases j with
   | zero => rfl
   | succ j => exact absurd (by simpa using hj) (z5d hn j)
  | succ i =>
   cases j with
   | zero =>
    simp only [kF, Option.some.injEq] at hj;subst hj;exact absurd (by simpa using hi) (z5d hn i)
   | succ j => rw [ih i j b (by simpa using hi) (by simpa using hj)]
 | none :: r, h, i, j, b, hi, hj => by
  simp only [z36] at h;have ih := z5p h;cases i with
  | zero => simp at hi
  | succ i =>
   cases j with
   | zero => simp at hj
   | succ j => rw [ih i j b (by simpa using hi) (by simpa using hj)]
def zv4 (p : Nat) (ρ : List (Option Nat)) : Bool := (List.range p).all fun b => match ρ[b]? with
 | some (some b') => kB b' b
 | _ => false
def jR (p : Nat) (ρ : List (Option Nat)) : Bool := z36 ρ && zv4 p ρ
theorem zoh {p : Nat} {ρ : List (Option Nat)} (h : jR p ρ = true) : Names p ρ where
 inj := z5p (by simp only [jR, kC] at h; exact h.1)
 pin := fun b hb => by
  simp only [jR, kC] at h;have := List.all_eq_true.1 h.2 b (by simpa using hb)
  split at this
  ·rename_i b' hb'; rw [hb', kA this]
  ·cases this
def Ob.pureB : Ob -> Bool
 | .row _ _ => true
 | .var (.v _ _) => true
 | .var _ => false
theorem zua (hw : o.wf) (h : o.pureB = true) : yf o.cells := by
 cases o with
 | row u l => exact xT hw
 | var t =>
  cases t <;> first | (cases h; done) | skip
  rename_i u x;have hx : wfU u x := by simpa only [TV.wf] using hw.1
  simp only [Ob.cells];rw [xW u x hx]; exact jK u x hx
def qT (p : Nat) (H : List TOb) (ρ : List (Option Nat)) (fz : List Nat) (b : Nat) : Fate :=
 match z3s ρ b 0 with
 | some j => .to j
 | none => bif z17 fz b && ko p b then (match H[b]? with
  | some (.ob _ o) => bif o.pureB then .fz o else .gone
  | _ => .gone) else .gone
theorem zu0 {p : Nat} {H : List TOb} {ρ : List (Option Nat)} {fz : List Nat} {b j : Nat} (h : (qT p H ρ fz b).name = some j) : ρ[j]? = some (some b) := by
 unfold qT at h;cases hp : z3s ρ b 0 with
 | some i =>
  rw [hp] at h;simp only [Fate.name, Option.some.injEq] at h;subst h;simpa using (zcx hp).2
 | none =>
  rw [hp] at h;simp only at h;cases hc : z17 fz b && ko p b with
  | false => rw [hc] at h; simp [Fate.name] at h
  | true =>
   rw [hc] at h;simp only [cond_true] at h;split at h
   ·rename_i o _;cases ho : o.pureB <;> rw [ho] at h <;> simp [Fate.name] at h
   ·simp [Fate.name] at h
variable {b : Nat}
theorem zdh {p : Nat} {H : List TOb} {ρ : List (Option Nat)} {fz : List Nat} (h : qT p H ρ fz b = .fz o) : (∀ i : Nat, ρ[i]? ≠ some (some b)) /\ p <= b /\ o.pureB = true /\ ∃ e, H[b]? = some (.ob e o) := by
 unfold qT at h;cases hp : z3s ρ b 0 with
 | some i => rw [hp] at h; cases h
 | none =>
  rw [hp] at h;simp only at h;cases hc : z17 fz b && ko p b with
  | false => rw [hc] at h; simp at h
  | true =>
   rw [hc] at h;simp only [cond_true] at h;simp only [kC] at hc;split at h
   ·rename_i e o' he;cases ho : o'.pureB with
    | false => rw [ho] at h; cases h
    | true =>
     rw [ho] at h;cases h;exact ⟨z5d hp, Nat.le_of_ble_eq_true hc.2, ho, e, he⟩
   ·cases h
theorem zg4 {H : List TOb} (g : Ab.Good w c (H.map TOb.flat) []) (hw : ∀ o, o ∈ H -> o.wf) {p : Nat} (hp : c.pn = p) {ρ : List (Option Nat)} (fz : List Nat) : MvH (qT p H ρ fz) w c w (jM c ρ) where
 base := zue (Ab.noT g) fun b j h => zu0 h
 fzw := fun b o h => by
  obtain ⟨_, _, _, e, he⟩ := zdh h;exact hw _ (kE he)
 fz := fun b o k h hk => by
  obtain ⟨h1, h2, h3, e, he⟩ := zdh h;have hwo := hw _ (kE he);have hb : (H.map TOb.flat)[b]? = some (.row o.cells e) := by rw [kG, he]; rfl
  obtain ⟨vs, fr, h4, h5, h6, h7, h8⟩ := (g.obj b _ hb).row hk;refine ⟨fun off n => .inr ⟨rfl, ObjC.lt g hk, fun hm => ?_, fun i j hT => ?_, g.oko b k (by omega) hk _⟩, vs, e, fr, h4, VRs.transfer (fun a n h => zcz h) _ (zua hwo h3) h8⟩
  ·obtain ⟨j, hj⟩ := kY.1 hm;obtain ⟨b', h10, h11⟩ := z4n hj;have := g.inj b b' k hk h11;subst this;exact h1 j h10
  ·simp only [jM, Ab.noT g] at hT;simp at hT
def jo (g : Nat -> Fate) (H : List TOb) : List HPat -> List (Option Nat) -> List TOb
 | h :: hs, some b :: ρ => (match H[b]? with
  | some (.ob e (.var t)) => .ob e (.var (t.mv g))
  | some o => o
  | none => .gone) :: jo g H hs ρ
 | h :: hs, none :: ρ => (match h with
  | .row e u => .ob e (.row u [])
  | _ => .gone) :: jo g H hs ρ
 | _, _ => []
theorem zap {g : Nat -> Fate} {H : List TOb} : ∀ {hs : List HPat} {ρ : List (Option Nat)}, hs.length = ρ.length -> (jo g H hs ρ).length = ρ.length
 | [], [], _ => rfl
 | h :: hs, some b :: ρ, e => by simp only [jo, kR, zap (hs := hs) (ρ := ρ) (by simpa using e)]
 | h :: hs, none :: ρ, e => by simp only [jo, kR, zap (hs := hs) (ρ := ρ) (by simpa using e)]
 | [], _ :: _, e => by simp at e
 | _ :: _, [], e => by simp at e
theorem z4i {g : Nat -> Fate} {H : List TOb} : ∀ {hs : List HPat} {ρ : List (Option Nat)} {j : Nat} {o : TOb}, (jo g H hs ρ)[j]? = some o ->
  (ρ[j]? = some none /\ (o = .gone \/ ∃ e u, o = .ob e (.row u []))) \/ ∃ b, ρ[j]? = some (some b) /\
   ((∃ e t, H[b]? = some (.ob e (.var t)) /\ o = .ob e (.var (t.mv g))) \/ (∃ e u l, H[b]? = some (.ob e (.row u l)) /\ o = .ob e (.row u l)) \/ ((H[b]? = none \/ H[b]? = some .gone) /\ o = .gone))
 | [], _, _, _, h => by simp [jo] at h
 | _ :: _, [], _, _, h => by simp [jo] at h
 | h :: hs, some b :: ρ, 0, o, e => by
  simp only [jo, kF, Option.some.injEq] at e;refine .inr ⟨b, rfl, ?_⟩;split at e
  ·rename_i e' t he; exact .inl ⟨e', t, he, e.symm⟩
  ·rename_i o' hne he;cases o' with
   | gone => exact .inr (.inr ⟨.inr he, e.symm⟩)
   | ob e' ob =>
    cases ob with
    | var t => exact absurd rfl (hne e' t)
    | row u l => exact .inr (.inl ⟨e', u, l, he, e.symm⟩)
  ·rename_i he; exact .inr (.inr ⟨.inl he, e.symm⟩)
 | h :: hs, none :: ρ, 0, o, e => by
  simp only [jo, kF, Option.some.injEq] at e;refine .inl ⟨rfl, ?_⟩;split at e
  ·exact .inr ⟨_, _, e.symm⟩
  ·exact .inl e.symm
 | h :: hs, some b :: ρ, j + 1, o, e => by
  simp only [jo, List.getElem?_cons_succ] at e ⊢;exact z4i e
 | h :: hs, none :: ρ, j + 1, o, e => by
  simp only [jo, List.getElem?_cons_succ] at e ⊢;exact z4i e
theorem zqz (hr : RelT w c σ a) (hw : σ.wf) {ρ : List (Option Nat)} (hn : jR σ.p ρ = true) (fz : List Nat) {hs : List HPat} (hl : hs.length = ρ.length) (ts : List Nat) :
  RelT w (jM c ρ) { n := σ.n, slots := ts.map fun t => (t, (σ.get t).mv (qT σ.p σ.H ρ fz)), H := jo (qT σ.p σ.H ρ fz) σ.H hs ρ, p := σ.p } a /\
  (∀ w0 c0, ExtP σ.p w0 c0 w c -> ExtP σ.p w0 c0 w (jM c ρ)) := by
 have hN := zoh hn;have g := hr.good;have M := zg4 g hw.H hr.1 (ρ := ρ) fz;refine ⟨⟨hr.1, ?_, ?_⟩, fun w0 c0 hx => ⟨hx.os, hx.tape, hx.output, hx.size, fun k hk => hx.new k (zli hk), hx.blocks, hx.ok, hx.pn, fun b k hb hm => zho (hN.pin b hb) (hx.pin b k hb hm), hx.room⟩⟩
 ·refine zu2 g (by rw [hr.1]; exact hN) (by simp only [TS.flat, kg]; exact zap hl) fun j o ho => ?_
  simp only [TS.flat, kG] at ho;cases hq : (jo (qT σ.p σ.H ρ fz) σ.H hs ρ)[j]? with
  | none => rw [hq] at ho; cases ho
  | some q =>
   rw [hq] at ho;simp only [k0, Option.some.injEq] at ho;subst ho;rcases z4i hq with ⟨h1, rfl | ⟨e, u, rfl⟩⟩ | ⟨b, h1, ⟨e, t, h2, rfl⟩ | ⟨e, u, l, h2, rfl⟩ | ⟨h2, rfl⟩⟩
   ·exact .inl ⟨h1, .inl rfl⟩
   ·exact .inl ⟨h1, .inr ⟨e, rfl⟩⟩
   ·have hwt := hw.H _ (kE h2);have m := vc M t hwt.1;exact .inr (.inl ⟨b, t.cells, e, (t.mv (qT σ.p σ.H ρ fz)).cells, h1, by rw [kG, h2]; rfl, rfl, m.len, m.leafs (xh hwt.1 hwt.2), fun fv hf => m.cells fv hf⟩)
   ·have hwt := hw.H _ (kE h2);exact .inr (.inl ⟨b, zj u l, e, zj u l, h1, by rw [kG, h2]; rfl, rfl, rfl, yQ hwt, fun fv hf => VRs.transfer (fun a n h => zcz h) _ (xT hwt) hf⟩)
   ·refine .inr (.inr ⟨b, h1, rfl, fun k hk => ?_⟩)
    have hlt : b < (σ.H.map TOb.flat).length := by rw [<- g.len]; exact (kK.1 hk).1
    rcases h2 with h2 | h2
    ·have := List.getElem?_eq_none_iff.1 h2; simp at hlt; omega
    ·have := g.obj b .gone (by rw [kG, h2]; rfl)
     have this : c.m[b]? = some none := this;rw [hk] at this; cases this
 ·refine ⟨hr.2.2.1, fun t q hlk hlt => ?_⟩
  simp only [TS.flat] at hlk hlt;rw [vC] at hlk;cases hlk' : yn (ts.map fun t => (t, (σ.get t).mv (qT σ.p σ.H ρ fz))) t with
  | none => rw [hlk'] at hlk; cases hlk
  | some v =>
   rw [hlk'] at hlk;simp only [k0, Option.some.injEq] at hlk;subst hlk;have hv : v = (σ.get t).mv (qT σ.p σ.H ρ fz) := by
    clear hlt
    induction ts with
    | nil => simp [yn] at hlk'
    | cons s ts ih =>
     simp only [ka, yn] at hlk';cases hb : kB s t with
     | true => rw [hb] at hlk'; rw [kA hb] at hlk'; simpa using hlk'.symm
     | false => rw [hb] at hlk'; exact ih (by simpa using hlk')
   subst hv;have hsz : t < a.tmps.size := by rw [hr.2.2.1]; exact hlt
   have hev := hr.2.2.eval (.tmp t);simp only [AS.eval, z2p, Act.eval, Array.getD_eq_getD_getElem?, Array.getElem?_eq_getElem hsz, Option.getD_some] at hev;exact ⟨a.tmps[t], by simp [hsz], (vc M _ (z78 hw t)).pv _ hev⟩
def Wk (σ σ2 : TS) : Prop := σ2.wf /\ ∀ w c a, RelT w c σ a -> ∃ c2, RelT w c2 σ2 a /\ ∀ w0 c0, ExtP σ.p w0 c0 w c -> ExtP σ.p w0 c0 w c2
theorem Wk.refl (h : σ.wf) : Wk σ σ := ⟨h, fun _ c _ hr => ⟨c, hr, fun _ _ h => h⟩⟩
structure XE where
 T : Type
 fit : TS -> Bool
 close : {R : Type} -> TS -> (T -> Option R) -> Option R
 st : T -> TS
def XE.OK (X : XE) : Prop := ∀ (R : Type) (σ : TS) (k : X.T -> Option R) (r : R), σ.wf -> X.close σ k = some r -> ∃ x, k x = some r /\ Wk σ (X.st x)
structure XS where
 T : Type
 close : {R : Type} -> Exit -> TS -> (T -> Option R) -> Option R
 open' : {R : Type} -> T -> (Exit -> TS -> Option R) -> Option R
 at' : T -> Exit × TS
structure XS.OK (X : XS) : Prop where
 close : ∀ (R : Type) (e : Exit) (σ : TS) (k : X.T -> Option R) (r : R), σ.wf -> X.close e σ k = some r -> ∃ x, k x = some r /\ (X.at' x).1 = e /\ Wk σ (X.at' x).2
 open' : ∀ (R : Type) (x : X.T) (k : Exit -> TS -> Option R), X.open' x k = k (X.at' x).1 (X.at' x).2
def z6l : Exit -> Exit -> Bool
 | .normal, .normal => true
 | .ret, .ret => true
 | .exit a, .exit b => kB a b
 | _, _ => false
theorem zfp {a b : Exit} (h : z6l a b = true) : a = b := by
 unfold z6l at h;split at h
 ·rfl
 ·rfl
 ·rw [kA h]
 ·cases h
def XS.one (e : Exit) (X : XE) : XS where
 T := X.T
 close := fun e' σ k => bif z6l e' e then X.close σ k else none
 open' := fun x k => k e (X.st x)
 at' := fun x => (e, X.st x)
def XS.or (e : Exit) (X : XE) (Y : XS) : XS where
 T := X.T ⊕ Y.T
 close := fun e' σ k => bif z6l e' e && X.fit σ then X.close σ (fun x => k (.inl x)) else Y.close e' σ (fun y => k (.inr y))
 open' := fun x k => Sum.elim (fun x => k e (X.st x)) (fun y => Y.open' y k) x
 at' := Sum.elim (fun x => (e, X.st x)) Y.at'
theorem XS.one_ok {e : Exit} {X : XE} (h : X.OK) : (XS.one e X).OK where
 close := fun R e' σ k r hw hc => by
  simp only [XS.one] at hc;cases hb : z6l e' e with
  | false => rw [hb] at hc; cases hc
  | true =>
   rw [hb] at hc;obtain ⟨x, h1, h2⟩ := h R σ k r hw hc;exact ⟨x, h1, (zfp hb).symm, h2⟩
 open' := fun R x k => rfl
theorem XS.or_ok {e : Exit} {X : XE} {Y : XS} (h : X.OK) (g : Y.OK) : (XS.or e X Y).OK where
 close := fun R e' σ k r hw hc => by
  simp only [XS.or] at hc;cases hb : z6l e' e && X.fit σ with
  | false =>
   rw [hb] at hc;obtain ⟨y, h1, h2, h3⟩ := g.close R e' σ _ r hw hc;exact ⟨.inr y, h1, h2, h3⟩
  | true =>
   rw [hb] at hc;simp only [kC] at hb;obtain ⟨x, h1, h2⟩ := h R σ _ r hw hc;exact ⟨.inl x, h1, (zfp hb.1).symm, h2⟩
 open' := fun R x k => by
  cases x with
  | inl x => rfl
  | inr y => simp only [XS.or, Sum.elim_inr]; exact g.open' R y k
def zle : List (Option Nat) -> Nat -> Nat -> List (Option Nat)
 | [], _, _ => []
 | none :: r, 0, b => some b :: r
 | some x :: r, 0, _ => some x :: r
 | x :: r, j + 1, b => x :: zle r j b
mutual
def zno : Pat -> TV -> List (Option Nat) -> List (Option Nat)
 | .pt j _ _, .ptr b _ _, ρ => zle ρ j b
 | .wa j _ _ _ _ _, .os b _ _ _ _ _, ρ => zle ρ j b
 | .wn j _, .os b _ _ _ _ _, ρ => zle ρ j b
 | .ws j _, .os b _ _ _ _ _, ρ => zle ρ j b
 | .rf q, .rf t, ρ => zno q t ρ
 | .ag l, .agg ts, ρ => zdf l ts ρ
 | .tu l, .tup ts, ρ => zdf l ts ρ
 | .fn _ l, .fn _ ts, ρ => zdf l ts ρ
 | _, _, ρ => ρ
def zdf : List Pat -> List TV -> List (Option Nat) -> List (Option Nat)
 | q :: l, t :: ts, ρ => zdf l ts (zno q t ρ)
 | _, _, ρ => ρ
end
mutual
def zg8 : TV -> List Nat
 | .os b _ _ _ _ _ => [b]
 | .agg ts => zjj ts
 | .tup ts => zjj ts
 | .fn _ ts => zjj ts
 | _ => []
def zjj : List TV -> List Nat
 | [] => []
 | t :: ts => zg8 t ++ zjj ts
end
mutual
def zs7 : Pat -> TV -> List Nat
 | .d _, t => zg8 t
 | .rf q, .rf t => zs7 q t
 | .rf _, .ptr b _ _ => [b]
 | .ag l, .agg ts => zev l ts
 | .tu l, .tup ts => zev l ts
 | .fn _ l, .fn _ ts => zev l ts
 | _, _ => []
def zev : List Pat -> List TV -> List Nat
 | q :: l, t :: ts => zs7 q t ++ zev l ts
 | _, _ => []
end
def zjy (H : List TOb) : List HPat -> Nat -> List (Option Nat) -> List (Option Nat)
 | [], _, ρ => ρ
 | h :: hs, j, ρ => zjy H hs (j + 1) (match h, ρ[j]? with
  | .var _ q, some (some b) => match H[b]? with
   | some (.ob _ (.var t)) => zno q t ρ
   | _ => ρ
  | _, _ => ρ)
def zfr (H : List TOb) : List HPat -> List (Option Nat) -> List Nat
 | .var _ q :: hs, some b :: ρ => (match H[b]? with
  | some (.ob _ (.var t)) => zs7 q t
  | _ => []) ++ zfr H hs ρ
 | _ :: hs, _ :: ρ => zfr H hs ρ
 | _, _ => []
def zgu : List HPat -> List (Option Nat) -> List (Option Nat)
 | .gone :: hs, _ :: ρ => none :: zgu hs ρ
 | _ :: hs, x :: ρ => x :: zgu hs ρ
 | _, _ => []
mutual
theorem zg1 : ∀ (q : Pat) (t : TV) {ls : List TV}, zh q t = some ls -> ls.length = q.codes.length
 | .d u, t, ls, h => by simp only [zh, Option.some.injEq] at h; subst h; rfl
 | .fs u, t, ls, h => by
  cases t <;> (try simp only [zh] at h) <;> first | (cases h; done) | (simp only [Option.some.injEq] at h; subst h; rfl)
 | .rf q, t, ls, h => by
  cases t <;> (try simp only [zh] at h) <;> first | (cases h; done) | skip
  exact zg1 q _ h
 | .pt j r p, t, ls, h => by
  cases t <;> (try simp only [zh] at h) <;> first | (cases h; done) | skip
  rename_i b r' p';cases hc : kB j b && r.beq r' && qm p p' <;> rw [hc] at h <;> cases h
  rfl
 | .wa j r p u lo n, t, ls, h => by
  cases t <;> (try simp only [zh] at h) <;> first | (cases h; done) | skip
  rename_i b r' p' u' lo' n';cases hc : kB j b && r.beq r' && qm p p' && u.beq u' && kB lo lo' && kB n n' <;> rw [hc] at h <;> cases h
  rfl
 | .wn j u, t, ls, h => by
  cases t <;> (try simp only [zh] at h) <;> first | (cases h; done) | skip
  ·cases h; rfl
  ·rename_i b r p u' lo n;cases p with
   | cons _ _ => simp only [zh] at h; cases h
   | nil =>
    simp only [zh] at h;cases hc : kB j b && u.beq u' && kB lo 0 <;> rw [hc] at h <;> cases h
    rfl
 | .ws j u, t, ls, h => by
  cases t <;> (try simp only [zh] at h) <;> first | (cases h; done) | skip
  ·cases h; rfl
  ·rename_i b r p u' lo n;cases p with
   | cons _ _ => simp only [zh] at h; cases h
   | nil =>
    simp only [zh] at h;cases hc : kB j b && u.beq u' && kB lo 0 <;> rw [hc] at h <;> cases h
    rfl
 | .ag l, t, ls, h => by
  cases t <;> (try simp only [zh] at h) <;> first | (cases h; done) | skip
  ·rename_i u x;cases u <;> (try simp only [zh] at h) <;> first | (cases h; done) | skip
   exact vB l _ h
  ·exact vB l _ h
 | .tu l, t, ls, h => by
  cases t <;> (try simp only [zh] at h) <;> first | (cases h; done) | skip
  exact vB l _ h
 | .fn f l, t, ls, h => by
  cases t <;> (try simp only [zh] at h) <;> first | (cases h; done) | skip
  rename_i f' ts;cases hc : kB f f' <;> rw [hc] at h <;> first | (cases h; done) | skip
  exact vB l _ h
 | .c t0, t, ls, h => by
  simp only [zh] at h;cases hc : zb9 t0 t <;> rw [hc] at h <;> cases h
  rfl
 | .on, t, ls, h => by
  simp only [zh] at h;cases hc : t.leafB <;> rw [hc] at h <;> cases h
  rfl
theorem vB : ∀ (l : List Pat) (ts : List TV) {ls : List TV}, yG l ts = some ls -> ls.length = (zi l).length
 | [], [], ls, h => by simp only [yG, Option.some.injEq] at h; subst h; rfl
 | q :: l, t :: ts, ls, h => by
  simp only [yG] at h;split at h
  ·rename_i a b ha hb;cases h;simp only [zi, kN, zg1 q t ha, vB l ts hb]
  ·cases h
 | [], _ :: _, _, h => by simp [yG] at h
 | _ :: _, [], _, h => by simp [yG] at h
end
structure Shp where
 n : Nat
 pn : Nat
 sl : List (Nat × Pat)
 hp : List HPat
def Shp.pats (S : Shp) : List Pat := S.sl.map (·.2)
def Shp.codes (S : Shp) : List U := zi S.pats ++ zk7 S.hp
def vd : List (Nat × Pat) -> List TV -> List (Nat × TV)
 | (t, _) :: r, v :: vs => (t, v) :: vd r vs
 | _, _ => []
def Shp.lens (S : Shp) (vs : List TV) : Nat -> Nat := zhb (zdk S.hp (vs.drop (zi S.pats).length))
def Shp.st (S : Shp) (x : LT S.codes) : TS where
 n := S.n
 slots := vd S.sl (z4u (S.lens (yj S.codes x)) S.pats (yj S.codes x)).1
 H := z3n (S.lens (yj S.codes x)) S.hp ((yj S.codes x).drop (zi S.pats).length)
 p := S.pn
def zv3 (p : Nat) : List HPat -> Nat -> List (Option Nat)
 | [], _ => []
 | _ :: hs, j => (bif Nat.blt j p then some j else none) :: zv3 p hs (j + 1)
def Shp.ren (S : Shp) (σ : TS) : List (Option Nat) := zgu S.hp (zjy σ.H S.hp 0 (zdf S.pats (S.sl.map fun x => σ.get x.1) (zv3 S.pn S.hp 0)))
def Shp.fate (S : Shp) (σ : TS) : Nat -> Fate := qT σ.p σ.H (S.ren σ) (zev S.pats (S.sl.map fun x => σ.get x.1) ++ zfr σ.H S.hp (S.ren σ))
def Shp.close (S : Shp) (σ : TS) (k : LT S.codes -> Option R) : Option R :=
 match yG S.pats (S.sl.map fun x => (σ.get x.1).mv (S.fate σ)), qU S.hp (jo (S.fate σ) σ.H S.hp (S.ren σ)) with
 | some a, some b => bif kB σ.n S.n && kB σ.p S.pn && jR S.pn (S.ren σ) && kB S.hp.length (S.ren σ).length then
   vp S.codes (a ++ b) fun x => z39 (S.lens (yj S.codes x)) (jQ S.pats (S.sl.map fun x => (σ.get x.1).mv (S.fate σ)) ++ z2s S.hp (jo (S.fate σ) σ.H S.hp (S.ren σ))) (k x)
  else none
 | _, _ => none
mutual
def zs5 : Pat -> TV -> Bool
 | .d _, .v _ _ => true
 | .d (.sl _), .nil => true
 | .d (.sl _), .fsl _ _ => true
 | .d (.sl _), .osf _ _ _ _ => true
 | .d (.sl _), .os _ _ _ _ _ _ => true
 | .d (.st _), .agg _ => true
 | .fs _, .fsl _ _ => true
 | .fs _, .nil => true
 | .rf q, .rf t => zs5 q t
 | .pt _ _ _, .ptr _ _ _ => true
 | .wa _ _ _ _ _ _, .os _ _ _ _ _ _ => true
 | .wn _ _, .os _ _ _ _ _ _ => true
 | .wn _ _, .nil => true
 | .ws _ _, .os _ _ _ _ _ _ => true
 | .ws _ _, .nil => true
 | .ag l, .agg ts => zes l ts
 | .ag _, .v _ _ => true
 | .tu l, .tup ts => zes l ts
 | .fn f l, .fn g ts => kB f g && zes l ts
 | .c a, b => zb9 a b
 | .on, t => t.leafB
 | _, _ => false
def zes : List Pat -> List TV -> Bool
 | [], [] => true
 | q :: l, t :: ts => zs5 q t && zes l ts
 | _, _ => false
end
def zjg (H : List TOb) : List HPat -> List (Option Nat) -> Bool
 | .var _ q :: hs, some b :: ρ => (match H[b]? with
  | some (.ob _ (.var t)) => zs5 q t
  | _ => false) && zjg H hs ρ
 | _ :: hs, _ :: ρ => zjg H hs ρ
 | _, _ => true
def Shp.fit (S : Shp) (σ : TS) : Bool := zes S.pats (S.sl.map fun x => σ.get x.1) && zjg σ.H S.hp (S.ren σ)
def Shp.xe (S : Shp) : XE := ⟨LT S.codes, S.fit, fun σ k => S.close σ k, S.st⟩
theorem zg3 : ∀ {sl : List (Nat × Pat)} {ts vs : List TV} {t : Nat} {v' : TV}, ts.length = sl.length -> vs.length = ts.length -> yn (vd sl vs) t = some v' ->
  ∃ (i : Nat) (v : TV), ts[i]? = some v /\ vs[i]? = some v' /\ (∃ q, sl[i]? = some (t, q))
 | [], _, _, _, _, _, _, h => by simp [vd, yn] at h
 | (s, q) :: sl, [], _, _, _, e, _, _ => by simp at e
 | (s, q) :: sl, t0 :: ts, [], _, _, _, e, _ => by simp at e
 | (s, q) :: sl, t0 :: ts, v0 :: vs, t, v', e1, e2, h => by
  simp only [vd, yn] at h;cases hb : kB s t with
  | true =>
   rw [hb] at h;simp only [cond_true, Option.some.injEq] at h;subst h;exact ⟨0, t0, rfl, rfl, q, by rw [kA hb]; rfl⟩
  | false =>
   rw [hb] at h;obtain ⟨i, v, h1, h2, h3⟩ := zg3 (sl := sl) (ts := ts) (vs := vs) (by simpa using e1) (by simpa using e2) (by simpa using h)
   exact ⟨i + 1, v, by simpa using h1, by simpa using h2, by simpa using h3⟩
theorem zo4 {n p : Nat} {sl : List (Nat × Pat)} {ts ts' : List TV} {H H' : List TOb} (hr : RelT w c ⟨n, [], H, p⟩ a) (hs : ∀ (i : Nat) t v, sl[i]? = some t -> ts[i]? = some v -> t.1 < n -> ∃ u, a.tmps[t.1]? = some u /\ VR w c v.pv u)
  (h1 : ts.length = sl.length) (h2 : FitsL ts ts') (h3 : H'.length = H.length) (h4 : ∀ (i : Nat) o o', H[i]? = some o -> H'[i]? = some o' -> za4 o o') : RelT w c ⟨n, vd sl ts', H', p⟩ a := by
 have g := hr.good;have gd : Gd w c := ⟨_, _, g⟩;refine ⟨hr.1, ?_, ?_⟩
 ·refine Good.le g (by simp [h3, TS.flat]) fun i o1 o2 e1 e2 => ?_
  simp only [kG, TS.flat] at e1 e2;cases e3 : H[i]? with
  | none => rw [e3] at e1; cases e1
  | some q =>
   cases e4 : H'[i]? with
   | none => rw [e4] at e2; cases e2
   | some q' =>
    rw [e3] at e1; rw [e4] at e2;simp at e1 e2;subst e1; subst e2;exact ze2 (h4 i q q' e3 e4)
 ·refine ⟨hr.2.2.1, fun t q hlk hlt => ?_⟩
  simp only [TS.flat] at hlk hlt;rw [vC] at hlk;cases hlk' : yn (vd sl ts') t with
  | none => rw [hlk'] at hlk; cases hlk
  | some v' =>
   rw [hlk'] at hlk;simp only [k0, Option.some.injEq] at hlk;subst hlk;obtain ⟨i, v, e1, e2, q, e3⟩ := zg3 h1 h2.len hlk';obtain ⟨u, h5, h6⟩ := hs i _ v e3 e1 hlt;refine ⟨u, h5, ?_⟩;have hp : (TV.pvs ts)[i]? = some v.pv := by rw [xl, kG, e1]; rfl
   have hp' : (TV.pvs ts')[i]? = some v'.pv := by rw [xl, kG, e2]; rfl
   exact h2.pvs.2 i _ _ hp hp' w c u gd h6
theorem zeg : ∀ {sl : List (Nat × Pat)} {vs : List TV} {x : Nat × TV}, x ∈ vd sl vs -> x.2 ∈ vs
 | [], _, _, h => by simp [vd] at h
 | _ :: _, [], _, h => by simp [vd] at h
 | (t, q) :: sl, v :: vs, x, h => by
  simp only [vd, kb] at h;rcases h with rfl | h
  ·simp
  ·simp [zeg h]
theorem zr (S : Shp) : S.xe.OK := by
 intro R σ k r hw hc;simp only [Shp.xe] at hc ⊢;unfold Shp.close at hc;split at hc
 ·rename_i la lb ha hb;cases hn : kB σ.n S.n && kB σ.p S.pn && jR S.pn (S.ren σ) && kB S.hp.length (S.ren σ).length with
  | false => rw [hn] at hc; cases hc
  | true =>
   rw [hn] at hc;simp only [kC] at hn;have e1 := kA hn.1.1.1;have e2 := kA hn.1.1.2;have e3 := hn.1.2;have e4 := kA hn.2;simp only [cond_true] at hc;have la_len := vB _ _ ha;have mvw : ∀ t : TV, t.wf -> (t.mv (S.fate σ)).wf /\ (t.stores = true -> (t.mv (S.fate σ)).stores = true) := fun t ht => z50 (fun b o h => by
    obtain ⟨_, _, _, e, he⟩ := zdh h;exact hw.H _ (kE he)) t ht
   have hvw : ∀ t, t ∈ (S.sl.map fun x => (σ.get x.1).mv (S.fate σ)) -> t.wf := fun t ht => by
    simp only [kj] at ht;obtain ⟨d, _, rfl⟩ := ht;exact (mvw _ (z78 hw _)).1
   have hHw : ∀ o, o ∈ jo (S.fate σ) σ.H S.hp (S.ren σ) -> o.wf := fun o ho => by
    obtain ⟨j, hj⟩ := kY.1 ho;rcases z4i hj with ⟨_, rfl | ⟨e, u, rfl⟩⟩ | ⟨b, _, ⟨e, t, h1, rfl⟩ | ⟨e, u, l, h1, rfl⟩ | ⟨_, rfl⟩⟩
    ·trivial
    ·exact fun x hx => by cases hx
    ·have := hw.H _ (kE h1);exact ⟨(mvw t this.1).1, (mvw t this.1).2 this.2⟩
    ·exact hw.H _ (kE h1)
    ·trivial
   have hlw : ∀ t, t ∈ la ++ lb -> t.wf := fun t ht => by
    rcases kH.1 ht with ht | ht
    ·exact vk _ _ (xm.2 hvw) ha t ht
    ·exact z90 _ _ hHw hb t ht
   obtain ⟨x, h1, h2, h3, h4⟩ := z6e S.codes _ hlw hc;obtain ⟨h1, hg⟩ := z4x h1;obtain ⟨hg1, hg2⟩ := hg.split;refine ⟨x, h1, ?_⟩;generalize hvs : yj S.codes x = vs at h3 h4 hg1 hg2;have sld : SldL (la ++ lb) vs := ⟨h3.symm, h4⟩;obtain ⟨s1, s2⟩ := sld.split;have hnS : (zi S.pats).length = la.length := la_len.symm;obtain ⟨ts', f1, f2⟩ := vZ (lens := S.lens vs) S.pats _ (vs.drop la.length) (xm.2 hvw) ha s1 hg1;rw [kZ] at f1;obtain ⟨f3, f4⟩ := z8w (lens := S.lens vs) (ss := vs.drop la.length) [] hHw hb s2 hg2;rw [List.append_nil] at f3 f4;have hst : S.st x = ⟨S.n, vd S.sl ts', z3n (S.lens vs) S.hp (vs.drop la.length), S.pn⟩ := by
    simp only [Shp.st, hvs, f1, hnS]
   rw [hst];refine ⟨⟨fun y hy => xm.1 f2.wf _ (zeg hy), fun o ho => ?_⟩, fun w c a hr => ?_⟩
   ·obtain ⟨i, hi⟩ := kY.1 ho;have hlt : i < (jo (S.fate σ) σ.H S.hp (S.ren σ)).length := by rw [<- f3]; exact (kK.1 hi).1
    have := f4 i _ o (List.getElem?_eq_getElem hlt) hi;generalize (jo (S.fate σ) σ.H S.hp (S.ren σ))[i] = o0 at this;cases o <;> cases o0 <;> first | exact this.elim | trivial | exact this.2.1
   ·obtain ⟨hr2, hx⟩ := zqz hr hw (by rw [e2]; exact e3) (zev S.pats (S.sl.map fun x => σ.get x.1) ++ zfr σ.H S.hp (S.ren σ)) e4 (S.sl.map (·.1))
    refine ⟨_, ?_, hx⟩;rw [<- e1, <- e2];refine zo4 (ts := S.sl.map fun x => (σ.get x.1).mv (S.fate σ)) ⟨hr2.1, hr2.2.1, ⟨hr2.2.2.1, fun t q h => by simp [TS.flat, Ab.look] at h⟩⟩ (fun i t v ht hv hlt => ?_) (by simp) f2 f3 f4
    rw [kG, ht] at hv;simp only [k0, Option.some.injEq] at hv;subst hv;have hsz : t.1 < a.tmps.size := by rw [hr.2.2.1]; exact hlt
    have hev := hr.2.2.eval (.tmp t.1);simp only [AS.eval, z2p, Act.eval, Array.getD_eq_getD_getElem?, Array.getElem?_eq_getElem hsz, Option.getD_some] at hev;exact ⟨a.tmps[t.1], by simp [hsz], (vc (zg4 hr.good hw.H hr.1 _) _ (z78 hw t.1)).pv _ hev⟩
 ·cases hc
def osK (H : List TOb) (b : Nat) (r : Rt) (p : List Stp) (u : U) (lo n : Nat) (k : List u.T -> Option R) : Option R :=
 match H[b]? with
 | some (.ob _ o) => bif kB u.size 0 then none else zt3 o r p u fun l => ja l lo n k
 | _ => none
theorem zn4 {H : List TOb} (hw : ∀ o, o ∈ H -> o.wf) {r : Rt} {p : List Stp} {lo n : Nat} {k : List u.T -> Option R} {x : R} (h : osK H b r p u lo n k = some x) :
  ∃ l e o, k l = some x /\ H[b]? = some (.ob e o) /\ u.size ≠ 0 /\ l.length = n /\ (∀ y, y ∈ l -> wfU u y) /\ (o.cells.drop (r.off p + lo * u.size)).take (n * u.size) = zj u l /\ r.off p + lo * u.size + n * u.size <= o.cells.length := by
 unfold osK at h;split at h
 ·rename_i e o hb;cases hz : kB u.size 0 with
  | true => rw [hz] at h; cases h
  | false =>
   rw [hz] at h;simp only [cond_false] at h;obtain ⟨l, h1, h2⟩ := zr2 (hw _ (kE hb)) h;obtain ⟨h3, h4, h5⟩ := zm5 h1;have hmul : lo * u.size + n * u.size <= l.length * u.size := by rw [<- kq]; exact Nat.mul_le_mul_right _ h4
   have hle := h2.le;refine ⟨zb7 l lo n, e, o, h3, hb, fun e => by rw [e] at hz; simp at hz, h5, fun y hy => h2.wf y (zlt hy), ?_, by omega⟩
   rw [<- zlu h2.wf h4, <- h2.cells, vH _ _ _ _ _ hmul]
 ·cases h
variable {P : Program}
theorem znb {y : Operand} {r : Rt} {p : List Stp} {lo n : Nat} {l : List u.T} {e : TypeId} (hy : σ.eval y = .os b r p u lo n) (hb : σ.H[b]? = some (.ob e o)) (hl : l.length = n)
  (hw : ∀ y, y ∈ l -> wfU u y) (hc : (o.cells.drop (r.off p + lo * u.size)).take (n * u.size) = zj u l) (hle : r.off p + lo * u.size + n * u.size <= o.cells.length) (Y : List AObj) (hY : Y[b]? = σ.flat.H[b]?) :
  SrcN P { σ.flat with H := Y } y l.length u.size (zj u l) := by
 have ey : σ.flat.eval y = .sl b (r.off p + lo * u.size) n u.size := by rw [zb hy (by simp)]; simp only [TV.pv]
 have := zul (P := P) (σ := { σ.flat with H := Y }) (y := y) (b := b) (off := r.off p + lo * u.size) (m := n) (sz := u.size) (cs := o.cells) (e := e) ey (hY.trans (z4v hb)) hle (by rw [hc]; exact yQ hw)
 rw [hc] at this;rw [hl]; exact this
@[reducible] def xG (l h : Int) (n : Nat) : Bool := leI 0 l && leI l h && leI h n
def vN {α : Type} (s : List α) (l h : Int) : List α := (s.drop l.toNat).take (h.toNat - l.toNat)
def qZ (σ : TS) (x : Option Operand) (d : Int) (k : Int -> Option R) : Option R :=
 match x with
 | none => k d
 | some y => match σ.eval y with
  | .v (.int _) i => k i
  | _ => none
theorem qf {x : Option Operand} {d : Int} {k : Int -> Option R} (h : qZ σ x d k = some r) : ∃ i, k i = some r /\ ∀ n, 0 <= d -> (0 <= i -> zH σ.flat x d.toNat i.toNat) /\ (n = i -> True) := by
 unfold qZ at h;split at h
 ·exact ⟨d, h, fun n _ => ⟨fun _ => rfl, fun _ => trivial⟩⟩
 ·rename_i y;split at h
  ·rename_i kd i hy;exact ⟨i, h, fun n _ => ⟨fun h0 => ⟨kd, i, zb hy (by simp), h0, rfl⟩, fun _ => trivial⟩⟩
  ·cases h
theorem zf6 {α : Type} {s : List α} {l h : Int} {x : α} (hx : x ∈ vN s l h) : x ∈ s := kM (kU hx)
theorem zux (s : List Int) (l h : Nat) : (ba s).extract l h = ba ((s.drop l).take (h - l)) := by
 apply ByteArray.ext;simp only [ba, ByteArray.data_extract];apply Array.ext';simp [List.extract, List.map_take, List.map_drop]
def zjb (H : List TOb) (b : Nat) (r : Rt) (p : List Stp) (n : Nat) (k : U -> Option R) : Option R :=
 match H[b]? with
 | some (.ob _ o) => bif r.beq o.lay then zak o p fun t => match t with
  | .v (.arr m u) _ => bif kB m n then k u else none
  | _ => none else none
 | _ => none
theorem zfe {H : List TOb} (hw : ∀ o, o ∈ H -> o.wf) {r : Rt} {p : List Stp} {n : Nat} {k : U -> Option R} {x : R} (h : zjb H b r p n k = some x) :
  ∃ u e o, k u = some x /\ H[b]? = some (.ob e o) /\ r.off p + n * u.size <= o.cells.length := by
 unfold zjb at h;split at h
 ·rename_i e o hb;cases hc : r.beq o.lay with
  | false => rw [hc] at h; cases h
  | true =>
   rw [hc] at h;have e1 := Rt.beq_eq hc;subst e1;simp only [cond_true] at h;obtain ⟨t, h1, h2⟩ := z85 o p (hw _ (kE hb)) h;split at h1
   ·rename_i m u l;cases hm : kB m n with
    | false => rw [hm] at h1; cases h1
    | true =>
     rw [hm] at h1;have e2 := kA hm;subst e2;have hw2 := h2.wf;obtain ⟨g1, g2, g3⟩ := z6j hw2;simp only [TV.wf, wfU] at hw2;have := h2.le;rw [g2, g3, hw2.1] at this;exact ⟨u, e, o, h1, hb, this⟩
   ·cases h1
 ·cases h
def zlq (P : Program) (σ : TS) (t : TypeId) (a : TV) (lo hi mx : Option Operand) (k : TV -> Option R) : Option R :=
 match mx with
 | some mx =>
  match hi, P.underlying t with
  | some hi, some (.slice e) =>
   match a with
   | .v (.sl u) s => bif yd P e u then qZ σ lo 0 fun l => qZ σ (some hi) 0 fun h => qZ σ (some mx) 0 fun m => bif xG l h (kJ s) && eqI h m then k (.fsl u (vN s l h)) else none else none
   | .fsl u s => bif yd P e u then qZ σ lo 0 fun l => qZ σ (some hi) 0 fun h => qZ σ (some mx) 0 fun m => bif xG l h (kJ s) && eqI h m then k (.fsl u (vN s l h)) else none else none
   | .os b r p u o n => bif yd P e u && !kB u.size 0 then qZ σ lo 0 fun l => qZ σ (some hi) 0 fun h => qZ σ (some mx) 0 fun m => bif xG l h n && eqI h m then k (.os b r p u (z23 o l.toNat) (h.toNat - l.toNat)) else none else none
   | _ => none
  | _, _ => none
 | none =>
  match P.underlying t, a with
  | some .string, .v .str s => qZ σ lo 0 fun l => qZ σ hi (kJ s) fun h => bif xG l h (kJ s) then k (.v .str (vN s l h)) else none
  | some (.slice e), .v (.sl u) s => bif yd P e u then qZ σ lo 0 fun l => qZ σ hi (kJ s) fun h => bif xG l h (kJ s) then k (.v (.sl u) (vN s l h)) else none else none
  | some (.slice e), .fsl u s => bif yd P e u then qZ σ lo 0 fun l => qZ σ hi (kJ s) fun h => bif xG l h (kJ s) then k (.v (.sl u) (vN s l h)) else none else none
  | some (.slice e), .os b r p u o n => bif yd P e u && !kB u.size 0 then qZ σ lo 0 fun l => qZ σ hi n fun h => bif xG l h n then k (.os b r p u (z23 o l.toNat) (h.toNat - l.toNat)) else none else none
  | some (.pointer arr), .ptr b r p => match P.underlying arr with
   | some (.array n e) => zjb σ.H b r p n fun u => bif yd P e u then qZ σ lo 0 fun l => qZ σ hi n fun h => bif xG l h n then k (.os b r p u l.toNat (h.toNat - l.toNat)) else none else none
   | _ => none
  | some (.array n e), .ptr b r p => zjb σ.H b r p n fun u => bif yd P e u then qZ σ lo 0 fun l => qZ σ hi n fun h => bif xG l h n then k (.os b r p u l.toNat (h.toNat - l.toNat)) else none else none
  | _, _ => none
variable {x : Operand}
theorem zp5 {o : Oper} {t : TypeId} {lo hi mx : Option Operand} {k : TV -> Option R} (ho : o.op = .slice t x lo hi mx) (hw : σ.wf) (h : zlq P σ t (σ.eval x) lo hi mx k = some r) :
  ∃ q, k q = some r /\ TQ P o σ q := by
 have hwx := zu hw x;unfold zlq at h;split at h
 ·rename_i mx';generalize hx : σ.eval x = a at h hwx;split at h
  ·rename_i hi' e hu;have slc : ∀ {u : U} {s : List u.T} {tl : Tail}, σ.flat.eval x = .tr s.length (zj u s) tl -> (∀ y, y ∈ s -> wfU u y) ->
     (bif yd P e u then qZ σ lo 0 fun l => qZ σ (some hi') 0 fun h => qZ σ (some mx') 0 fun m => bif xG l h (kJ s) && eqI h m then k (.fsl u (vN s l h)) else none else none) = some r -> ∃ q, k q = some r /\ TQ P o σ q := by
    intro u s tl ex hws h;cases hc : yd P e u with
    | false => rw [hc] at h; cases h
    | true =>
     rw [hc] at h;simp only [cond_true] at h;obtain ⟨l, h, hl⟩ := qf h;obtain ⟨hh, h, hhb⟩ := qf h;obtain ⟨m, h, hmb⟩ := qf h;cases hs : xG l hh s.length && eqI hh m with
     | false => rw [hs] at h; cases h
     | true =>
      rw [hs] at h;simp only [kC, decide_eq_true_eq] at hs;obtain ⟨⟨⟨h0, h1⟩, h2⟩, h3⟩ := hs;subst h3;have hlb := (hl 0 (kL 0)).1 h0;have hhb' := (hhb 0 (kL 0)).1 (by omega)
      have hmb' := (hmb 0 (kL 0)).1 (by omega)
      have := fun (Y : List AObj) (hY : ∀ b, b ∈ xf o σ -> Y[b]? = σ.flat.H[b]?) => zov (P := P) (σ := { σ.flat with H := Y }) ho hu (xB hc).2 ex (by rw [xS hws]) hlb (show zH σ.flat (some hi') s.length hh.toNat from hhb') (show zH σ.flat (some mx') s.length hh.toNat from hmb') (by omega) (by omega)
      rw [z5f hws (by omega), z3d (fun y hy => hws y (kM hy)) (by rw [kS]; omega)] at this
      refine ⟨_, h, by simp only [TV.wf]; exact fun y hy => hws y (zf6 hy), ?_⟩
      simp only [TV.pv];have e1 : (vN s l hh).length = hh.toNat - l.toNat := by simp only [vN, kc, kS]; omega
      rw [e1];exact this
   split at h
   ·rename_i u s;simp only [TV.wf, wfU] at hwx;exact slc (by rw [zb hx (by simp)]; rfl) hwx h
   ·rename_i u s;simp only [TV.wf] at hwx;exact slc (by rw [zb hx (by simp)]; rfl) hwx h
   ·rename_i b rt p u o' n;cases hc : yd P e u && !kB u.size 0 with
    | false => rw [hc] at h; cases h
    | true =>
     rw [hc] at h;simp only [cond_true] at h;simp only [kC, kV] at hc;obtain ⟨l, h, hl⟩ := qf h;obtain ⟨hh, h, hhb⟩ := qf h;obtain ⟨m, h, hmb⟩ := qf h;cases hs : xG l hh n && eqI hh m with
     | false => rw [hs] at h; cases h
     | true =>
      rw [hs] at h;simp only [kC, decide_eq_true_eq] at hs;obtain ⟨⟨⟨h0, h1⟩, h2⟩, h3⟩ := hs;subst h3;have ex : σ.flat.eval x = .sl b (rt.off p + o' * u.size) n u.size := by rw [zb hx (by simp)]; simp only [TV.pv]
      have hlb := (hl 0 (kL 0)).1 h0;have hhb' := (hhb 0 (kL 0)).1 (by omega)
      have hmb' := (hmb 0 (kL 0)).1 (by omega)
      have := fun (Y : List AObj) (hY : ∀ b, b ∈ xf o σ -> Y[b]? = σ.flat.H[b]?) => zot (P := P) (σ := { σ.flat with H := Y }) ho hu (xB hc.1).2 (fun e => by rw [e] at hc; simp at hc) ex hlb (show zH σ.flat (some hi') n hh.toNat from hhb') (show zH σ.flat (some mx') n hh.toNat from hmb') (by omega) (by omega)
      refine ⟨_, h, by simp only [TV.wf], ?_⟩
      simp only [TV.pv];rw [z6i, kq, <- ki]; exact this
   ·cases h
  ·cases h
 ·generalize hx : σ.eval x = a at h hwx;have slc : ∀ {u : U} {s : List u.T} {e : TypeId} {tl : Tail}, P.underlying t = some (.slice e) -> σ.flat.eval x = .tr s.length (zj u s) tl -> (∀ y, y ∈ s -> wfU u y) ->
    (bif yd P e u then qZ σ lo 0 fun l => qZ σ hi (kJ s) fun h => bif xG l h (kJ s) then k (.v (.sl u) (vN s l h)) else none else none) = some r -> ∃ q, k q = some r /\ TQ P o σ q := by
   intro u s e tl hu ex hws h;cases hc : yd P e u with
   | false => rw [hc] at h; cases h
   | true =>
    rw [hc] at h;simp only [cond_true] at h;obtain ⟨l, h, hl⟩ := qf h;obtain ⟨hh, h, hhb⟩ := qf h;cases hs : xG l hh s.length with
    | false => rw [hs] at h; cases h
    | true =>
     rw [hs] at h;simp only [kC, decide_eq_true_eq] at hs;obtain ⟨⟨h0, h1⟩, h2⟩ := hs;have hlb := (hl 0 (kL 0)).1 h0;have hhb' := (hhb 0 (by omega)).1 (by omega)
     have := fun (Y : List AObj) (hY : ∀ b, b ∈ xf o σ -> Y[b]? = σ.flat.H[b]?) => zqx (P := P) (σ := { σ.flat with H := Y }) ho hu (xB hc).2 ex (by rw [xS hws]) hlb (show zH σ.flat hi s.length hh.toNat by simpa using hhb') (by omega) (by omega)
     rw [z5f hws (by omega), z3d (fun y hy => hws y (kM hy)) (by rw [kS]; omega)] at this
     refine ⟨_, h, by simp only [TV.wf, wfU]; exact fun y hy => hws y (zf6 hy), ?_⟩
     simp only [TV.pv, pvU];have e1 : (vN s l hh).length = hh.toNat - l.toNat := by simp only [vN, kc, kS]; omega
     rw [e1];exact this
  split at h
  ·rename_i s hu;obtain ⟨l, h, hl⟩ := qf h;obtain ⟨hh, h, hhb⟩ := qf h;cases hs : xG l hh (kJ s) with
   | false => rw [hs] at h; cases h
   | true =>
    rw [hs] at h;simp only [kC, decide_eq_true_eq] at hs;obtain ⟨⟨h0, h1⟩, h2⟩ := hs;simp only [TV.wf, wfU] at hwx;have ex : σ.flat.eval x = .val (.string (ba s)) := by rw [zb hx (by simp)]; rfl
    have hlb := (hl 0 (kL 0)).1 h0;have hhb' := (hhb 0 (by omega)).1 (by omega)
    have := fun (Y : List AObj) (hY : ∀ b, b ∈ xf o σ -> Y[b]? = σ.flat.H[b]?) => zou (P := P) (σ := { σ.flat with H := Y }) ho hu ex hlb (by rw [z2y]; exact show zH σ.flat hi s.length hh.toNat by simpa using hhb') (by omega) (by rw [z2y]; omega)
    rw [zux] at this;exact ⟨_, h, by simp only [TV.wf, wfU]; exact fun y hy => hwx y (zf6 hy), this⟩
  ·rename_i e u s hu;simp only [TV.wf, wfU] at hwx;exact slc hu (by rw [zb hx (by simp)]; rfl) hwx h
  ·rename_i e u s hu;simp only [TV.wf] at hwx;exact slc hu (by rw [zb hx (by simp)]; rfl) hwx h
  ·rename_i e b rt p u o' n hu;cases hc : yd P e u && !kB u.size 0 with
   | false => rw [hc] at h; cases h
   | true =>
    rw [hc] at h;simp only [cond_true] at h;simp only [kC, kV] at hc;obtain ⟨l, h, hl⟩ := qf h;obtain ⟨hh, h, hhb⟩ := qf h;cases hs : xG l hh n with
    | false => rw [hs] at h; cases h
    | true =>
     rw [hs] at h;simp only [kC, decide_eq_true_eq] at hs;obtain ⟨⟨h0, h1⟩, h2⟩ := hs;have ex : σ.flat.eval x = .sl b (rt.off p + o' * u.size) n u.size := by rw [zb hx (by simp)]; simp only [TV.pv]
     have hlb := (hl 0 (kL 0)).1 h0;have hhb' := (hhb 0 (by omega)).1 (by omega)
     have := fun (Y : List AObj) (hY : ∀ b, b ∈ xf o σ -> Y[b]? = σ.flat.H[b]?) => zqw (P := P) (σ := { σ.flat with H := Y }) ho hu (xB hc.1).2 (fun e => by rw [e] at hc; simp at hc) ex hlb (show zH σ.flat hi n hh.toNat by simpa using hhb') (by omega) (by omega)
     refine ⟨_, h, by simp only [TV.wf], ?_⟩
     simp only [TV.pv];rw [z6i, kq, <- ki]; exact this
  ·rename_i arr b rt p hu;split at h
   ·rename_i n e ha;obtain ⟨u, el, ob, h, hb, hle⟩ := zfe hw.H h;cases hc : yd P e u with
    | false => rw [hc] at h; cases h
    | true =>
     rw [hc] at h;simp only [cond_true] at h;obtain ⟨l, h, hl⟩ := qf h;obtain ⟨hh, h, hhb⟩ := qf h;cases hs : xG l hh n with
     | false => rw [hs] at h; cases h
     | true =>
      rw [hs] at h;simp only [kC, decide_eq_true_eq] at hs;obtain ⟨⟨h0, h1⟩, h2⟩ := hs;have ex : σ.flat.eval x = .ptr b (rt.off p) := by rw [zb hx (by simp)]; simp only [TV.pv]
      have hlb := (hl 0 (kL 0)).1 h0;have hhb' := (hhb 0 (by omega)).1 (by omega)
      have := fun (Y : List AObj) (hY : ∀ b, b ∈ xf o σ -> Y[b]? = σ.flat.H[b]?) => zos (P := P) (σ := { σ.flat with H := Y }) ho hu ha (xB hc).2 ex ((hY b (by simp [xf, ho, hx, TV.root])).trans (z4v hb)) hle hlb (show zH σ.flat hi n hh.toNat by simpa using hhb') (by omega) (by omega)
      refine ⟨_, h, by simp only [TV.wf], ?_⟩
      simp only [TV.pv];exact this
   ·cases h
  ·rename_i n e b rt p hu;obtain ⟨u, el, ob, h, hb, hle⟩ := zfe hw.H h;cases hc : yd P e u with
   | false => rw [hc] at h; cases h
   | true =>
    rw [hc] at h;simp only [cond_true] at h;obtain ⟨l, h, hl⟩ := qf h;obtain ⟨hh, h, hhb⟩ := qf h;cases hs : xG l hh n with
    | false => rw [hs] at h; cases h
    | true =>
     rw [hs] at h;simp only [kC, decide_eq_true_eq] at hs;obtain ⟨⟨h0, h1⟩, h2⟩ := hs;have ex : σ.flat.eval x = .ptr b (rt.off p) := by rw [zb hx (by simp)]; simp only [TV.pv]
     have hlb := (hl 0 (kL 0)).1 h0;have hhb' := (hhb 0 (by omega)).1 (by omega)
     have := fun (Y : List AObj) (hY : ∀ b, b ∈ xf o σ -> Y[b]? = σ.flat.H[b]?) => zor (P := P) (σ := { σ.flat with H := Y }) ho hu (xB hc).2 ex ((hY b (by simp [xf, ho, hx, TV.root])).trans (z4v hb)) hle hlb (show zH σ.flat hi n hh.toNat by simpa using hhb') (by omega) (by omega)
     refine ⟨_, h, by simp only [TV.wf], ?_⟩
     simp only [TV.pv];exact this
  ·cases h
def z3h (n m nb : Nat) (k : Unit -> Option R) : Option R := bif ko ((n + m) * nb) 140737488355328 then k () else none
theorem ziq {s : List Int} (hs : z05 s) : ((ba s).data.toList.map fun b => PV.val (.int .u8 b.toNat)) = zj (.int .u8) s := by
 simp only [ba, zj, zc, List.map_map];have key : ∀ l : List Int, (∀ x, x ∈ l -> 0 <= x /\ x < 256) -> l.map ((fun b : UInt8 => PV.val (.int .u8 b.toNat)) ∘ fun n : Int => UInt8.ofNat n.toNat) = l.flatMap fun x => [PV.val (.int .u8 x)] := by
  intro l
  induction l with
  | nil => intro _; rfl
  | cons x l ih =>
   intro hl;have hx := hl x (by simp)
   simp only [ka, List.flatMap_cons, Function.comp, List.singleton_append, List.cons.injEq, PV.val.injEq, Value.int.injEq, true_and];refine ⟨by simp; omega, ?_⟩
   have := ih (fun z hz => hl z (by simp [hz]))
   simpa [Function.comp] using this
 exact key s hs
theorem zk3 {s : List Int} (hs : z05 s) : ∀ x, x ∈ s -> wfU (.int .u8) x := fun x hx => by
 have := hs x hx;simp only [wfU]; exact ⟨by show (0 : Int) <= x; omega, by show x <= 255; omega⟩
def zp6 (P : Program) (H : List TOb) (t2 : TypeId) (u : U) (b : TV) (k : List u.T -> Option R) : Option R :=
 bif z1t P t2 then
  match b with
  | .v (.sl v) l => xV (.sl v) (.sl u) l k
  | .fsl v l => xV (.sl v) (.sl u) l k
  | .nil => k []
  | .os b r p v lo n => osK H b r p v lo n fun l => xV (.sl v) (.sl u) l k
  | .v .str s => xV (.sl (.int .u8)) (.sl u) s k
  | _ => none
 else none
theorem zls (hw : σ.wf) {t2 : TypeId} {y : Operand} {k : List u.T -> Option R} (h : zp6 P σ.H t2 u (σ.eval y) k = some r) :
  ∃ m, k m = some r /\ (∀ x, x ∈ m -> wfU u x) /\ z1t P t2 = true /\ ∀ Y : List AObj, (∀ b, b ∈ (σ.eval y).root -> Y[b]? = σ.flat.H[b]?) -> SrcN P { σ.flat with H := Y } y m.length u.size (zj u m) := by
 have hwy := zu hw y;unfold zp6 at h;cases hc : z1t P t2 with
 | false => rw [hc] at h; cases h
 | true =>
  rw [hc] at h;simp only [cond_true] at h;generalize hy : σ.eval y = b at h hwy ⊢;split at h
  ·rename_i v l;obtain ⟨e, h⟩ := yg h;cases e;simp only [TV.wf, wfU] at hwy;exact ⟨l, h, hwy, rfl, fun Y _ => zdt (σ := { σ.flat with H := Y }) ((zb hy (by simp)).trans rfl) (xS hwy) (yQ hwy)⟩
  ·rename_i v l;obtain ⟨e, h⟩ := yg h;cases e;simp only [TV.wf] at hwy;exact ⟨l, h, hwy, rfl, fun Y _ => zdt (σ := { σ.flat with H := Y }) ((zb hy (by simp)).trans rfl) (xS hwy) (yQ hwy)⟩
  ·exact ⟨[], h, fun x hx => (by cases hx), rfl, fun Y _ => zdt (σ := { σ.flat with H := Y }) ((zb hy (by simp)).trans rfl) (by simp [zj]) (fun p hp => by simp [zj] at hp)⟩
  ·rename_i b' rt p v lo n;obtain ⟨l, e, o, h1, h2, h3, h4, h5, h6, h7⟩ := zn4 hw.H h;obtain ⟨e', h1⟩ := yg h1;cases e';exact ⟨l, h1, h5, rfl, fun Y hY => znb hy h2 h4 h5 h6 h7 Y (hY _ (by simp [hy, TV.root]))⟩
  ·rename_i s;obtain ⟨e, h⟩ := yg h;cases e;simp only [TV.wf, wfU] at hwy;have := fun (Y : List AObj) (_ : ∀ b, b ∈ (TV.v U.str s).root -> Y[b]? = σ.flat.H[b]?) => zt6 (P := P) (σ := { σ.flat with H := Y }) (y := y) (s := ba s) ((zb hy (by simp)).trans rfl)
   simp only [ziq hwy, z2y] at this;exact ⟨s, h, zk3 hwy, rfl, this⟩
  ·cases h
def z2m (P : Program) (H : List TOb) (t t2 : TypeId) (u : U) (l : List u.T) (b : TV) (k : List u.T -> Option R) : Option R :=
 match P.underlying t with
 | some (.slice e) =>
  match qK P e, (P.info? e).map (·.bytes) with
  | some z, some nb => bif yd P e u && !kB nb 0 && kB z.length u.size then zp6 P H t2 u b fun m => z3h l.length m.length nb fun _ => k m else none
  | _, _ => none
 | _ => none
structure AppOK (P : Program) (σ : TS) (t t2 : TypeId) (y : Operand) (u : U) (n : Nat) (m : List u.T) (e : TypeId) (nb : Nat) : Prop where
 ty : P.underlying t = some (.slice e)
 el : ElemT P e u.size nb
 src : z1t P t2 = true
 wf : ∀ x, x ∈ m -> wfU u x
 le : (n + m.length) * nb <= 2 ^ 47
 srcN : ∀ Y : List AObj, (∀ b, b ∈ (σ.eval y).root -> Y[b]? = σ.flat.H[b]?) -> SrcN P { σ.flat with H := Y } y m.length u.size (zj u m)
theorem z5k {t t2 : TypeId} {y : Operand} {l : List u.T} {k : List u.T -> Option R} (hw : σ.wf) (h : z2m P σ.H t t2 u l (σ.eval y) k = some r) : ∃ m e nb, k m = some r /\ AppOK P σ t t2 y u l.length m e nb := by
 unfold z2m at h;split at h
 ·rename_i e hu;split at h
  ·rename_i z nb hz hnb;cases hc : yd P e u && !kB nb 0 && kB z.length u.size with
   | false => rw [hc] at h; cases h
   | true =>
    rw [hc] at h;simp only [cond_true] at h;simp only [kC, kV] at hc;obtain ⟨m, h, hm, hs, hsrc⟩ := zls hw h;unfold z3h at h;cases hb : ko ((l.length + m.length) * nb) 140737488355328 with
    | false => rw [hb] at h; cases h
    | true =>
     rw [hb] at h;exact ⟨m, e, nb, h, hu, ⟨(xB hc.1.1).2, hnb, fun e0 => by rw [e0] at hc; simp at hc, z, hz, kA hc.2⟩, hs, hm, by have := Nat.le_of_ble_eq_true hb; omega, hsrc⟩
  ·cases h
 ·cases h
def zh5 (P : Program) (H : List TOb) (xs : List TV) (ts : List TypeId) (k : TV -> Option R) : Option R :=
 match xs, ts with
 | [.nil, b], [t, t2] => match P.underlying t with
  | some (.slice e) => match z06 P vI e with
   | some u => z2m P H t t2 u [] b fun m => k (.v (.sl u) m)
   | none => none
  | _ => none
 | [.fsl u l, b], [t, t2] => z2m P H t t2 u l b fun m => k (.v (.sl u) (l ++ m))
 | _, _ => none
theorem zbc {o : Oper} {t t2 : TypeId} {x y : Operand} {l : List u.T} {k : List u.T -> Option R} (ho : o.op = .call { callee := .builtin .append, args := #[x, y], argTypes := #[t, t2] }) (hw : σ.wf)
  (hx : σ.flat.eval x = .tr l.length (zj u l) .full) (hl : ∀ x, x ∈ l -> wfU u x) (h : z2m P σ.H t t2 u l (σ.eval y) k = some r) : ∃ m, k m = some r /\ TQ P o σ (.v (.sl u) (l ++ m)) := by
 obtain ⟨m, e, nb, h1, h2⟩ := z5k hw h;have hall : ∀ x, x ∈ l ++ m -> wfU u x := fun x hx => (kH.1 hx).elim (hl x) (h2.wf x)
 have := fun (Y : List AObj) (hY : ∀ b, b ∈ xf o σ -> Y[b]? = σ.flat.H[b]?) => zsr (P := P) (σ := { σ.flat with H := Y }) ho h2.ty h2.el h2.src hx (xS hl) (h2.srcN Y fun b hb => hY b (by simp [xf, ho, hb])).ok h2.le
 refine ⟨m, h1, by simp only [TV.wf, wfU]; exact hall, ?_⟩
 simp only [TV.pv, pvU];rw [kN];have e1 : List.flatMap (fun x => zc u x) (l ++ m) = zj u l ++ zj u m := z94 l m
 rw [e1]; exact this
theorem z7s {xs : Array Operand} {a b : TV} (h : xs.toList.map σ.eval = [a, b]) : ∃ x y, xs = #[x, y] /\ σ.eval x = a /\ σ.eval y = b := by
 obtain ⟨x, l', h1, h2, h3⟩ := List.map_eq_cons_iff.1 h;obtain ⟨y, l'', g1, g2, g3⟩ := List.map_eq_cons_iff.1 h3;have := List.map_eq_nil_iff.1 g3;subst this; subst g1;exact ⟨x, y, xN h1, h2, g2⟩
theorem zma {o : Oper} {xs : Array Operand} {ts : Array TypeId} {k : TV -> Option R} (ho : o.op = .call { callee := .builtin .append, args := xs, argTypes := ts }) (hw : σ.wf)
  (h : zh5 P σ.H (xs.toList.map σ.eval) ts.toList k = some r) : ∃ q, k q = some r /\ TQ P o σ q := by
 unfold zh5 at h;generalize hm : xs.toList.map σ.eval = m at h;generalize hts : ts.toList = l at h;split at h
 ·rename_i b t t2;obtain ⟨x, y, rfl, hx, hy⟩ := z7s hm;have e := xN hts; subst e;split at h
  ·split at h
   ·rename_i u _;rw [<- hy] at h;obtain ⟨m', h1, h2⟩ := zbc ho hw (by rw [zb hx (by simp)]; rfl) (fun x hx => by cases hx) h
    exact ⟨_, h1, h2⟩
   ·cases h
  ·cases h
 ·rename_i u l' b t t2;obtain ⟨x, y, rfl, hx, hy⟩ := z7s hm;have e := xN hts; subst e;rw [<- hy] at h;have hwx := zu hw x;rw [hx] at hwx;simp only [TV.wf] at hwx;obtain ⟨m', h1, h2⟩ := zbc ho hw (by rw [zb hx (by simp)]; rfl) hwx h
  exact ⟨_, h1, h2⟩
 ·cases h
def zpb (H : List TOb) (a : TV) (k : List Int -> Option R) : Option R :=
 match a with
 | .v (.sl (.int .u8)) l => k l
 | .fsl (.int .u8) l => k l
 | .nil => k []
 | .os b r p u lo n => osK H b r p u lo n fun l => xV (.sl u) (.sl (.int .u8)) l k
 | _ => none
def z58 (P : Program) (s : TypeId) : Bool :=
 match P.underlying s with
 | some (.slice e) => match P.underlying e with
  | some (.int .u8) => true
  | _ => false
 | _ => false
theorem z8z {s : TypeId} (h : z58 P s = true) : ∃ e, P.underlying s = some (.slice e) /\ P.underlying e = some (.int .u8) := by
 unfold z58 at h;split at h
 ·rename_i e he;split at h
  ·rename_i h2; exact ⟨e, he, h2⟩
  ·cases h
 ·cases h
def zk8 (P : Program) (H : List TOb) (s t : TypeId) (a : TV) (k : TV -> Option R) : Option R :=
 match P.underlying t with
 | some .string => bif z58 P s then zpb H a fun l => k (.v .str l) else zjd P s t a k
 | _ => zjd P s t a k
theorem zb0 : ∀ l : List Int, zj (.int .u8) l = l.map fun n => .val (.int .u8 n)
 | [] => rfl
 | n :: l => by
  have ih := zb0 l;simp only [zj, List.flatMap_cons, zc, ka, List.singleton_append] at ih ⊢;rw [ih]
theorem zrh (hw : σ.wf) {k : List Int -> Option R} (h : zpb σ.H (σ.eval x) k = some r) :
  ∃ l, k l = some r /\ z05 l /\ (∀ Y : List AObj, (∀ b, b ∈ (σ.eval x).root -> Y[b]? = σ.flat.H[b]?) -> SrcN P { σ.flat with H := Y } x l.length 1 (l.map fun n => .val (.int .u8 n))) /\ ∀ w c (a : Act) Y, RelC w c { σ.flat with H := Y } a -> ∃ ad cap, a.eval x = .slice ad l.length cap := by
 have hwx := zu hw x;unfold zpb at h;generalize hx : σ.eval x = a at h hwx ⊢;have byte : ∀ {l : List Int}, (∀ n, n ∈ l -> wfU (.int .u8) n) -> z05 l := fun hl n hn => by
  have := hl n hn;simp only [wfU] at this;have h1 : (0 : Int) <= n := this.1;have h2 : n <= 255 := this.2;omega
 have tr : ∀ {l : List Int} {tl : Tail}, σ.flat.eval x = .tr l.length (zj (.int .u8) l) tl -> (∀ n, n ∈ l -> wfU (.int .u8) n) ->
   (∀ Y : List AObj, SrcN P { σ.flat with H := Y } x l.length 1 (l.map fun n => .val (.int .u8 n))) /\ ∀ w c (a : Act) Y, RelC w c { σ.flat with H := Y } a -> ∃ ad cap, a.eval x = .slice ad l.length cap := fun {l tl} ex hl => by
  refine ⟨fun Y => ?_, fun w c a Y hr => ?_⟩
  ·have := zdt (P := P) (σ := { σ.flat with H := Y }) (sz := 1) ex (xS hl) (yQ hl);rw [zb0] at this; exact this
  ·have hv := hr.2.eval x;rw [show AS.eval { σ.flat with H := Y } x = _ from ex] at hv
   exact zmn hv
 split at h
 ·rename_i l;simp only [TV.wf, wfU] at hwx;obtain ⟨h1, h2⟩ := tr (tl := .no) (by rw [zb hx (by simp)]; rfl) hwx
  exact ⟨l, h, byte hwx, fun Y _ => h1 Y, h2⟩
 ·rename_i l;simp only [TV.wf] at hwx;obtain ⟨h1, h2⟩ := tr (tl := .full) (by rw [zb hx (by simp)]; rfl) hwx
  exact ⟨l, h, byte hwx, fun Y _ => h1 Y, h2⟩
 ·obtain ⟨h1, h2⟩ := tr (l := []) (tl := .full) (by rw [zb hx (by simp)]; rfl) (fun n hn => by cases hn)
  exact ⟨[], h, fun n hn => (by cases hn), fun Y _ => h1 Y, h2⟩
 ·rename_i b rt p u lo n;obtain ⟨l, e, o, h1, h2, h3, h4, h5, h6, h7⟩ := zn4 hw.H h;obtain ⟨e', h1⟩ := yg h1;cases e';refine ⟨l, h1, byte h5, fun Y hY => ?_, fun w c a Y hr => ?_⟩
  ·have := znb (P := P) hx h2 h4 h5 h6 h7 Y (hY _ (by simp [TV.root]))
   rw [zb0] at this; exact this
  ·have hv := hr.2.eval x;have ex : σ.flat.eval x = .sl b (rt.off p + lo * (U.int IntKind.u8).size) n (U.int IntKind.u8).size := by rw [zb hx (by simp)]; simp only [TV.pv]
   rw [show AS.eval { σ.flat with H := Y } x = _ from ex] at hv
   rw [h4]; exact zef hv
 ·cases h
theorem znw {o : Oper} {s t : TypeId} {k : TV -> Option R} (ho : o.op = .convert s t x) (hw : σ.wf) (h : zk8 P σ.H s t (σ.eval x) k = some r) : ∃ q, k q = some r /\ TQ P o σ q := by
 unfold zk8 at h;split at h
 ·rename_i ht;cases hb : z58 P s with
  | false => rw [hb] at h; exact zi2 ho hw h
  | true =>
   rw [hb] at h;simp only [cond_true] at h;obtain ⟨e, he1, he2⟩ := z8z hb;obtain ⟨l, h1, h2, h3, h4⟩ := zrh (P := P) hw h;refine ⟨_, h1, by simp only [TV.wf, wfU]; exact h2, fun Y hY => ?_⟩
   have := zv9 (P := P) (σ := { σ.flat with H := Y }) ho he1 he2 ht (h3 Y fun b hb => hY b (by simp only [xf, ho]; exact hb)) (fun w c a hr => h4 w c a Y hr)
   exact this
 ·exact zi2 ho hw h
def z3z : Nat -> List TOb -> Nat -> Fate
 | 0, _, _ => .gone
 | n + 1, H, b => match H[b]? with
  | some (.ob _ (.row u l)) => .fz (.row u l)
  | some (.ob _ (.var t)) => .fz (.var (t.mv (z3z n H)))
  | _ => .gone
theorem zgx : ∀ (n : Nat) (H : List TOb) (b : Nat), (z3z n H b).name = none
 | 0, _, _ => rfl
 | n + 1, H, b => by
  simp only [z3z];split <;> rfl
def vm : Cx := ⟨[], [], fun _ _ => True, 0⟩
theorem zie {H : List AObj} {ts : List Bool} (g : Ab.Good w c H ts) : Ab.Good w vm [] [] where
 len := rfl
 inj := fun i j k h => by simp [vm] at h
 obj := fun b o h => by simp at h
 tl := rfl
 tal := fun i h => by simp at h
 tdead := fun i h => by simp at h
 tok := fun i k j h => by simp [vm] at h
 tinj := fun i i' k j j' h => by simp [vm] at h
 okn := fun _ _ _ => trivial
 okm := fun _ _ _ _ _ => trivial
 okt := fun i k j h => by simp [vm] at h
 oko := fun _ _ _ h => by simp [vm] at h
 gl := g.gl.sub (fun k h => by simp [vm] at h) fun i k j h => by simp [vm] at h
theorem zdw {H : List TOb} (hw : ∀ o, o ∈ H -> o.wf) : ∀ (n : Nat) b o, z3z n H b = .fz o -> o.wf
 | 0, b, o, h => by simp [z3z] at h
 | n + 1, b, o, h => by
  simp only [z3z] at h;split at h
  ·rename_i e u l hb; cases h; exact hw _ (kE hb)
  ·rename_i e t hb;cases h;have := hw _ (kE hb);have m := z50 (zdw hw n) t this.1;exact ⟨m.1, m.2 this.2⟩
  ·cases h
theorem znd {w : World} {c : Cx} {H : List TOb} {Y : List AObj} (hY : ∀ b, b < H.length -> Y[b]? = (H.map TOb.flat)[b]?) (g : Ab.Good w c Y []) (hw : ∀ o, o ∈ H -> o.wf) : ∀ n, MvH (z3z n H) w c w vm
 | 0 => ⟨⟨Ab.noT g, fun b j k h => by simp [zgx] at h, fun a n h => by
   rcases h with h | ⟨h1, h2, h3, h4, h5⟩
   ·exact .inl h
   ·exact .inr ⟨h1, h2, by simp [vm], fun i k h => by simp [vm] at h, trivial⟩, fun a n _ i v _ hv => hv, fun k vs e fr h => ⟨vs, fr, h, rfl⟩⟩, zdw hw 0, fun b o k h => by simp [z3z] at h⟩
 | n + 1 => by
  have ih := znd hY g hw n;have at' : ∀ {b : Nat} {e : TypeId} {o : Ob}, H[b]? = some (.ob e o) -> Y[b]? = some (.row o.cells e) := fun {b e o} hb => by
   rw [hY b (kK.1 hb).1, kG, hb]; rfl
  refine ⟨⟨Ab.noT g, fun b j k h => by simp [zgx] at h, ih.base.foot, fun a n _ i v _ hv => hv, fun k vs e fr h => ⟨vs, fr, h, rfl⟩⟩, zdw hw (n + 1), fun b o k h hk => ?_⟩
  have hlt := ObjC.lt g hk;refine ⟨fun off m => .inr ⟨rfl, hlt, by simp [vm], fun i k h => by simp [vm] at h, trivial⟩, ?_⟩
  simp only [z3z] at h;split at h
  ·rename_i e u l hb;cases h;obtain ⟨vs, fr, h4, h5, h6, h7, h8⟩ := (g.obj b _ (at' hb)).row hk;exact ⟨vs, e, fr, h4, VRs.transfer (fun a n h => ih.base.foot a n h) _ (xT (hw _ (kE hb))) h8⟩
  ·rename_i e t hb;cases h;obtain ⟨vs, fr, h4, h5, h6, h7, h8⟩ := (g.obj b _ (at' hb)).row hk;exact ⟨vs, e, fr, h4, (vc ih t (hw _ (kE hb)).1).cells _ h8⟩
  ·cases h
mutual
def U.flat : U -> Bool
 | .int _ | .bool | .str => true
 | .arr _ u => u.flat
 | .st us => us.flat
 | _ => false
def Us.flat : Us -> Bool
 | .one u => u.flat
 | .cons u us => u.flat && us.flat
end
mutual
def Fl : PV -> Prop
 | .val _ => True
 | .agg cs => Fls cs
 | .tup cs => Fls cs
 | .fn _ caps => Fls caps
 | .ifc _ p => Fl p
 | .one => True
 | .dead => True
 | _ => False
def Fls : List PV -> Prop
 | [] => True
 | p :: ps => Fl p /\ Fls ps
end
theorem z1f : ∀ {ps : List PV}, Fls ps ↔ ∀ p, p ∈ ps -> Fl p
 | [] => by simp [Fls]
 | p :: ps => by simp [Fls, z1f (ps := ps)]
mutual
theorem Fl.to {w : World} {c : Cx} {w' : World} {c' : Cx} : ∀ (p : PV) {v : Value}, Fl p -> VR w c p v -> VR w' c' p v
 | .val _, _, _, h => by simp only [VR] at h ⊢; exact h
 | .ptr _ _, _, hf, _ | .fz _, _, hf, _ | .sl _ _ _ _, _, hf, _ | .tr _ _ _, _, hf, _ => by simp only [Fl] at hf
 | .fn f caps, _, hf, h => by
  simp only [Fl] at hf;simp only [VR] at h ⊢;obtain ⟨cv, h1, h2, h3⟩ := h;exact ⟨cv, h1, h2, Fls.to caps hf h3⟩
 | .agg cs, _, hf, h => by
  simp only [Fl] at hf;simp only [VR] at h ⊢;obtain ⟨cv, h1, h2, h4, h3⟩ := h;exact ⟨cv, h1, h2, h4, Fls.to cs hf h3⟩
 | .tup cs, _, hf, h => by
  simp only [Fl] at hf;simp only [VR] at h ⊢;obtain ⟨cv, h1, h2, h3⟩ := h;exact ⟨cv, h1, h2, Fls.to cs hf h3⟩
 | .ifc t p, _, hf, h => by
  simp only [Fl] at hf;simp only [VR] at h ⊢;obtain ⟨v, h1, h2⟩ := h;exact ⟨v, h1, Fl.to p hf h2⟩
 | .one, _, _, h => by simp only [VR] at h ⊢; exact h
 | .dead, _, _, _ => by simp only [VR]
theorem Fls.to {w : World} {c : Cx} {w' : World} {c' : Cx} : ∀ (ps : List PV) {f : Nat -> Option Value}, Fls ps -> VRs w c ps f -> VRs w' c' ps f
 | [], _, _, _ => by simp only [VRs]
 | p :: ps, f, hf, h => by
  simp only [Fls] at hf;simp only [VRs] at h ⊢;obtain ⟨⟨v, h1, h2⟩, h3⟩ := h;exact ⟨⟨v, h1, Fl.to p hf.1 h2⟩, Fls.to ps hf.2 h3⟩
end
mutual
theorem z67 : ∀ (u : U) (x : u.T), u.flat = true -> Fls (zc u x)
 | .int _, _, _ | .bool, _, _ | .str, _, _ => by simp [zc, Fls, Fl]
 | .leaf, _, h | .sl _, _, h => by simp [U.flat] at h
 | .st us, x, h => by
  simp only [U.flat] at h;simp only [zc];exact ze9 us x h
 | .arr n u, l, h => by
  simp only [U.flat] at h;simp only [zc];refine z1f.2 fun p hp => ?_
  simp only [kW] at hp;obtain ⟨y, hy, hp⟩ := hp;exact z1f.1 (z67 u y h) p hp
theorem ze9 : ∀ (us : Us) (x : us.T), us.flat = true -> Fls (zI us x)
 | .one u, x, h => by
  simp only [Us.flat] at h;simp only [zI];exact z67 u x h
 | .cons u us, x, h => by
  simp only [Us.flat, kC] at h;simp only [zI];refine z1f.2 fun p hp => ?_
  rcases kH.1 hp with hp | hp
  ·exact z1f.1 (z67 u x.1 h.1) p hp
  ·exact z1f.1 (ze9 us x.2 h.2) p hp
end
mutual
def TV.flatB : TV -> Bool
 | .v u _ => u.flat
 | .agg ts => z9i ts
 | .tup ts => z9i ts
 | .fn _ ts => z9i ts
 | .ifc _ x => x.flatB
 | .nilp | .nilf | .yl _ | .nili | .nilm | .one => true
 | _ => false
def z9i : List TV -> Bool
 | [] => true
 | t :: ts => t.flatB && z9i ts
end
mutual
def TV.pureB : TV -> Bool
 | .ptr _ _ _ | .os _ _ _ _ _ _ | .mp _ => false
 | .rf t => t.pureB
 | .agg ts => vM ts
 | .tup ts => vM ts
 | .fn _ ts => vM ts
 | .ifc _ x => x.pureB
 | _ => true
def vM : List TV -> Bool
 | [] => true
 | t :: ts => t.pureB && vM ts
end
mutual
theorem z66 : ∀ t : TV, t.wf -> t.flatB = true -> Fl t.pv /\ Fls t.cells
 | .v u x, hw, h => by
  simp only [TV.wf] at hw;simp only [TV.flatB] at h;have hc := z67 u x h;rw [xW u x hw];refine ⟨?_, hc⟩;simp only [TV.pv];cases hg : u.isAgg with
  | true => rw [z6o x hg]; simp only [Fl]; exact hc
  | false => rw [z4m x hg] at hc; simp only [Fls] at hc; exact hc.1
 | .agg ts, hw, h => by
  simp only [TV.wf] at hw;simp only [TV.flatB] at h;have := (z4w ts hw.2.1 h).2;exact ⟨by simp only [TV.pv, Fl]; exact this, by rw [jN]; exact this⟩
 | .tup ts, hw, h => by
  simp only [TV.wf] at hw;simp only [TV.flatB] at h;have := (z4w ts hw h).1;have h2 : Fl (TV.tup ts).pv := by simp only [TV.pv, Fl]; exact this
  exact ⟨h2, show Fls [_] from ⟨h2, trivial⟩⟩
 | .fn f ts, hw, h => by
  simp only [TV.wf] at hw;simp only [TV.flatB] at h;have := (z4w ts hw h).1;have h2 : Fl (TV.fn f ts).pv := by simp only [TV.pv, Fl]; exact this
  exact ⟨h2, show Fls [_] from ⟨h2, trivial⟩⟩
 | .ifc t x, hw, h => by
  simp only [TV.wf] at hw;simp only [TV.flatB] at h;have := (z66 x hw h).1;have h2 : Fl (TV.ifc t x).pv := by simp only [TV.pv, Fl]; exact this
  exact ⟨h2, show Fls [_] from ⟨h2, trivial⟩⟩
 | .nilp, _, _ | .nilf, _, _ | .yl _, _, _ | .nili, _, _ | .nilm, _, _ | .one, _, _ => by simp [TV.pv, TV.cells, cellsOf, Fls, Fl]
 | .mp _, _, h | .ptr _ _ _, _, h | .os _ _ _ _ _ _, _, h | .rf _, _, h | .nil, _, h | .fsl _ _, _, h | .osf _ _ _ _, _, h | .dead, _, h => by simp [TV.flatB] at h
theorem z4w : ∀ ts : List TV, TV.wfs ts -> z9i ts = true -> Fls (TV.pvs ts) /\ Fls (TV.cellsL ts)
 | [], _, _ => by simp [TV.pvs, TV.cellsL, Fls]
 | t :: ts, hw, h => by
  simp only [TV.wfs] at hw;simp only [z9i, kC] at h;have h1 := z66 t hw.1 h.1;have h2 := z4w ts hw.2 h.2;refine ⟨by simp only [TV.pvs, Fls]; exact ⟨h1.1, h2.1⟩, ?_⟩
  rw [zZ];refine z1f.2 fun p hp => ?_
  rcases kH.1 hp with hp | hp
  ·exact z1f.1 h1.2 p hp
  ·exact z1f.1 h2.2 p hp
end
mutual
theorem yS : ∀ t : TV, t.wf -> t.pureB = true -> Ab.Pure t.pv /\ yf t.cells
 | .v u x, hw, _ => by
  simp only [TV.wf] at hw;rw [xW u x hw];exact ⟨by simp only [TV.pv]; exact zsp u x hw, jK u x hw⟩
 | .rf t, hw, h => by
  simp only [TV.wf] at hw;simp only [TV.pureB] at h;have := (yS t hw.1 h).2;have h2 : Ab.Pure (TV.rf t).pv := by simp only [TV.pv, Ab.Pure]; exact this
  exact ⟨h2, show yf [_] from ⟨h2, trivial⟩⟩
 | .agg ts, hw, h => by
  simp only [TV.wf] at hw;simp only [TV.pureB] at h;have := (z0c ts hw.2.1 h).2;exact ⟨by simp only [TV.pv, Ab.Pure]; exact this, by rw [jN]; exact this⟩
 | .tup ts, hw, h => by
  simp only [TV.wf] at hw;simp only [TV.pureB] at h;have := (z0c ts hw h).1;have h2 : Ab.Pure (TV.tup ts).pv := by simp only [TV.pv, Ab.Pure]; exact this
  exact ⟨h2, show yf [_] from ⟨h2, trivial⟩⟩
 | .fn f ts, hw, h => by
  simp only [TV.wf] at hw;simp only [TV.pureB] at h;have := (z0c ts hw h).1;have h2 : Ab.Pure (TV.fn f ts).pv := by simp only [TV.pv, Ab.Pure]; exact this
  exact ⟨h2, show yf [_] from ⟨h2, trivial⟩⟩
 | .ifc t x, hw, h => by
  simp only [TV.wf] at hw;simp only [TV.pureB] at h;have := (yS x hw h).1;have h2 : Ab.Pure (TV.ifc t x).pv := by simp only [TV.pv, Ab.Pure]; exact this
  exact ⟨h2, show yf [_] from ⟨h2, trivial⟩⟩
 | .fsl u l, hw, _ => by
  simp only [TV.wf] at hw;have := xT hw;have h2 : Ab.Pure (TV.fsl u l).pv := by simp only [TV.pv, Ab.Pure]; exact ⟨rfl, this⟩
  exact ⟨h2, show yf [_] from ⟨h2, trivial⟩⟩
 | .osf u l lo n, hw, _ => by
  simp only [TV.wf] at hw;have hp : yf (kh (n * u.size) (ke (lo * u.size) (zj u l))) := yP.2 fun p hp => yP.1 (xT hw) p (kM (kU hp))
  have h2 : Ab.Pure (TV.osf u l lo n).pv := by simp only [TV.pv, Ab.Pure]; exact ⟨rfl, hp⟩
  exact ⟨h2, show yf [_] from ⟨h2, trivial⟩⟩
 | .nil, _, _ => by simp [TV.pv, TV.cells, cellsOf, yf, Ab.Pure]; rfl
 | .nilp, _, _ | .nilf, _, _ | .yl _, _, _ | .nili, _, _ | .nilm, _, _ | .one, _, _ | .dead, _, _ => by simp [TV.pv, TV.cells, cellsOf, yf, Ab.Pure]
 | .mp _, _, h | .ptr _ _ _, _, h | .os _ _ _ _ _ _, _, h => by simp [TV.pureB] at h
theorem z0c : ∀ ts : List TV, TV.wfs ts -> vM ts = true -> yf (TV.pvs ts) /\ yf (TV.cellsL ts)
 | [], _, _ => by simp [TV.pvs, TV.cellsL, yf]
 | t :: ts, hw, h => by
  simp only [TV.wfs] at hw;simp only [vM, kC] at h;have h1 := yS t hw.1 h.1;have h2 := z0c ts hw.2 h.2;refine ⟨by simp only [TV.pvs, yf]; exact ⟨h1.1, h2.1⟩, ?_⟩
  rw [zZ];refine yP.2 fun p hp => ?_
  rcases kH.1 hp with hp | hp
  ·exact yP.1 h1.2 p hp
  ·exact yP.1 h2.2 p hp
end
structure Sig where
 f : FuncId
 A : List Pat
 hp : List HPat
 pn : Nat
 X : XS
def Sig.codes (S : Sig) : List U := zi S.A ++ zk7 S.hp
def Sig.lens (S : Sig) (vs : List TV) : Nat -> Nat := zhb (zdk S.hp (vs.drop (zi S.A).length))
def Sig.args (S : Sig) (x : LT S.codes) : List TV := (z4u (S.lens (yj S.codes x)) S.A (yj S.codes x)).1
def Sig.heap (S : Sig) (x : LT S.codes) : List TOb := z3n (S.lens (yj S.codes x)) S.hp ((yj S.codes x).drop (zi S.A).length)
def z1s (σ : TS) : TV := (yn σ.slots 0).getD .dead
structure FnOK (P : Program) (S : Sig) (fn : LT S.codes -> Option S.X.T) : Prop where
 can : z0n P S.f = true
 ret : ∀ x y, fn x = some y -> (∀ t, t ∈ S.args x -> t.wf) -> (∀ o, o ∈ S.heap x -> o.wf) -> (z1s (S.X.at' y).2).wf /\ (∀ o, o ∈ (S.X.at' y).2.H -> o.wf)
 calls : ∀ x y, fn x = some y -> (∀ t, t ∈ S.args x -> t.wf) -> (∀ o, o ∈ S.heap x -> o.wf) -> zuv P S.f S.pn ((S.args x).map TV.pv) ((S.heap x).map TOb.flat) (fun p H' => p = (z1s (S.X.at' y).2).pv /\ H' = (S.X.at' y).2.H.map TOb.flat)
 open' : ∀ (R : Type) (y : S.X.T) (k : Exit -> TS -> Option R), S.X.open' y k = k (S.X.at' y).1 (S.X.at' y).2
structure Ent where
 f : FuncId
 ok : List TOb -> List TV -> Bool
 run : {R : Type} -> List TOb -> List TV -> (TV -> Option R) -> Option R
def zvx (P : Program) (f : FuncId) (args : List TV) (t : TV) : Prop :=
 ∃ (fn : Func) (e : Array Value -> Sem Value) (vs : List Value) (v : Value), P.funcs[f]? = some fn /\ (fn.name == "runtime.NumGoroutine") = false /\ fn.body.isNone = true /\ Extern.findNext fn = none /\ Extern.find fn = some e /\
  args.map TV.pv = vs.map PV.val /\ t.pv = .val v /\ vl v = true /\ ∀ w, (e vs.toArray).run P w = .ok v w
def zth (P : Program) (f : FuncId) (H : List TOb) (args : List TV) (t : TV) : Prop :=
 zvx P f args t \/ z0n P f = true /\ ∀ (Y : List AObj) w c (vs : Array Value), (∀ b, b < H.length -> Y[b]? = (H.map TOb.flat)[b]?) -> Ab.Good w c Y [] -> vs.size = args.length -> VRs w c (args.map TV.pv) (fun i => vs[i]?) ->
  Calls P f vs w fun e w' => ∃ v, e = .returned v /\ VR w' c t.pv v /\ Ab.Good w' c Y [] /\ Ext w c w' c
def zng (P : Program) (e : Ent) : Prop := ∀ (R : Type) (H : List TOb) (args : List TV) (k : TV -> Option R) (r : R), (∀ o, o ∈ H -> o.wf) -> (∀ a, a ∈ args -> a.wf) -> e.run H args k = some r -> ∃ t, k t = some r /\ t.wf /\ zth P e.f H args t
def zfi {R : Type} (E : List Ent) (f : FuncId) (H : List TOb) (args : List TV) (k : TV -> Option R) : Option R :=
 match E with
 | [] => none
 | e :: E => bif kB e.f f && e.ok H args then e.run H args k else zfi E f H args k
def za3 (P : Program) (E : List Ent) : Prop := ∀ e, e ∈ E -> zng P e
theorem xY (P : Program) : za3 P [] := fun _ h => by cases h
theorem qD {e : Ent} {E : List Ent} (h : zng P e) (g : za3 P E) : za3 P (e :: E) := fun x hx => by
 rcases kb.1 hx with rfl | hx
 ·exact h
 ·exact g x hx
theorem zfj {R : Type} {P : Program} : ∀ {E : List Ent} {f : FuncId} {H : List TOb} {args : List TV} {k : TV -> Option R} {r : R}, za3 P E -> (∀ o, o ∈ H -> o.wf) -> (∀ a, a ∈ args -> a.wf) -> zfi E f H args k = some r ->
  ∃ t, k t = some r /\ t.wf /\ zth P f H args t
 | [], _, _, _, _, _, _, _, _, h => by simp [zfi] at h
 | e :: E, f, H, args, k, r, hE, hH, hw, h => by
  simp only [zfi] at h;cases hc : kB e.f f && e.ok H args with
  | true =>
   rw [hc] at h;simp only [kC] at hc;have := kA hc.1;subst this;exact hE e (by simp) R H args k r hH hw h
  | false => rw [hc] at h; exact zfj (fun x hx => hE x (by simp [hx])) hH hw h
theorem z7y (σ : TS) : ∀ xs : List Operand, CLe (xs.map σ.flat.eval) ((xs.map σ.eval).map TV.pv)
 | [] => CLe.refl _
 | x :: xs => CLe.cons (z2o σ x) (z7y σ xs)
def zk4 (E : List Ent) (H : List TOb) (fv : TV) (args : List TV) (k : TV -> Option R) : Option R :=
 match fv with
 | .fn f caps => zfi E f H (args ++ caps) k
 | _ => none
theorem zbx {Y : List AObj} (hrel : RelC w c { σ.flat with H := Y } a) {fo : Operand} {xs : Array Operand} {f : FuncId} {caps : List TV} (hfo : σ.eval fo = .fn f caps) :
  ∃ cv : Array Value, a.eval fo = .func (.func f) #[] cv /\ (xs.map a.eval ++ cv).size = (xs.toList.map σ.eval ++ caps).length /\ VRs w c ((xs.toList.map σ.eval ++ caps).map TV.pv) (fun i => (xs.map a.eval ++ cv)[i]?) := by
 have hfv := hrel.2.eval fo;have ef : σ.flat.eval fo = .fn f (TV.pvs caps) := by rw [zb hfo (by simp)]; simp only [TV.pv]
 rw [show AS.eval { σ.flat with H := Y } fo = _ from ef] at hfv
 simp only [VR] at hfv;obtain ⟨cv, hf1, hf2, hf3⟩ := hfv;rw [xl, kg] at hf2;refine ⟨cv, hf1, by simp [hf2], ?_⟩
 rw [List.map_append];have hgd : Gd w c := ⟨_, _, hrel.1⟩;refine z5z (jk hgd (z7y σ xs.toList) (zU fun i p hi => ?_)) ?_
 ·rw [kG] at hi;cases hx : xs.toList[i]? with
  | none => rw [hx] at hi; cases hi
  | some x =>
   rw [hx] at hi; simp at hi; subst hi;have hx' : xs[i]? = some x := by simpa using hx
   have hlt : i < (xs.map a.eval).size := by
    have := (Array.getElem?_eq_some_iff.1 hx').1; simpa using this
   exact ⟨a.eval x, by rw [Array.getElem?_append_left hlt]; simp [hx'], hrel.2.eval x⟩
 ·rw [xl] at hf3;refine ve hf3 fun i hi => ?_
  rw [Array.getElem?_append_right (by simp)]
  congr 1;simp
theorem zm2 {w : World} {c : Cx} : ∀ (vs : List Value) (l : List Value), VRs w c (vs.map PV.val) (fun i => l[i]?) -> l.length = vs.length -> l = vs
 | [], l, _, h => kD h
 | v :: vs, [], _, h => by cases h
 | v :: vs, x :: l, hv, h => by
  have h0 := zo hv (i := 0) (p := PV.val v) rfl;obtain ⟨y, h1, h2⟩ := h0;have hy : x = y := by simpa using h1
  subst hy;rw [qP] at h2;rw [h2.1, zm2 vs l (zU fun i p hi => by
   obtain ⟨z, h3, h4⟩ := zo hv (i := i + 1) (p := p) (by simpa using hi)
   exact ⟨z, by simpa using h3, h4⟩) (by simpa using h)]
theorem zr4 {o : Oper} {f : FuncId} {fo : Operand} {xs : Array Operand} {ats : Array TypeId} {ρ : Operand -> Value} {cv : Array Value} {fn : Func} {e : Array Value -> Sem Value} {vs : Array Value} {v : Value} (ho : o.op = .call { callee := .value fo, args := xs, argTypes := ats })
  (hf : P.funcs[f]? = some fn) (hname : (fn.name == "runtime.NumGoroutine") = false) (hb : fn.body.isNone = true) (hn : Extern.findNext fn = none) (he : Extern.find fn = some e)
  (hρ : ρ fo = .func (.func f) #[] cv) (ha : xs.map ρ ++ cv = vs) (w : World) (hr : (e vs).run P w = .ok v w) : (execOp ρ o).run P w = .ok (.value v) w := by
 simp only [execOp, ho, resolve, hρ, Deferred.ofValue, Sem.run_bind, Sem.run_pure, Result.andThen_ok, invoke];have := run_callFunc_extern (P := P) hf hname hb hn he (xs.map ρ ++ cv) w;rw [ha, hr] at this;rw [<- ha] at this;simpa using this
theorem zpx {E : List Ent} {o : Oper} {fo : Operand} {xs : Array Operand} {ats : Array TypeId} {k : TV -> Option R} (hE : za3 P E)
  (ho : o.op = .call { callee := .value fo, args := xs, argTypes := ats }) (hw : σ.wf) (h : zk4 E σ.H (σ.eval fo) (xs.toList.map σ.eval) k = some r) : ∃ q, k q = some r /\ TQ P o σ q := by
 have hwf := zu hw fo;unfold zk4 at h;generalize hfo : σ.eval fo = fv at h hwf;split at h
 ·rename_i f caps;simp only [TV.wf] at hwf;obtain ⟨t, h1, h2, h34⟩ := zfj hE hw.H (fun a ha => by
   rcases kH.1 ha with ha | ha
   ·simp only [kj] at ha;obtain ⟨x, _, rfl⟩ := ha;exact zu hw x
   ·exact xm.1 hwf a ha) h
  refine ⟨t, h1, h2, fun Y hY c a w K Q hrel hK => ?_⟩
  obtain ⟨cv, e1, e2, e3⟩ := zbx (xs := xs) hrel hfo;rcases h34 with ⟨fn, e, vs, v, hf, hname, hb, hn, he, hargs, ht, hpl, hrun⟩ | ⟨h3, h4⟩
  ·have harr : xs.map a.eval ++ cv = vs.toArray := by
    rw [hargs] at e3;have hlen : (xs.map a.eval ++ cv).toList.length = vs.length := by
     have := congrArg kJ hargs;simp only [kg] at this;rw [Array.length_toList, e2, this]
    have := zm2 vs (xs.map a.eval ++ cv).toList (ve e3 fun i hi => Array.getElem?_toList.symm) hlen
    rw [<- this]
   exact je (zr4 ho hf hname hb hn he e1 harr w (hrun w)) (hK v w (by rw [ht, qP]; exact ⟨rfl, hpl⟩) hrel.1 (Ext.refl _ _))
  unfold Oper.wp;rw [zb1 ho h3 e1];show Calls P f (xs.map a.eval ++ cv) w _;refine (h4 Y w c _ (fun b hb => hY b (by simp only [xf, ho]; simpa using hb)) hrel.1 e2 e3).mono ?_
  rintro e w' ⟨v, rfl, hv, hg, hx⟩;exact hK v w' hv hg hx
 ·cases h
def zcs (a : TV) (k : TV -> Option R) : Option R :=
 match a with
 | .ptr b r p => k (.ptr b r p)
 | .rf t => k (.rf t)
 | .fn f c => k (.fn f c)
 | _ => none
theorem zj4 {o : Oper} {k : TV -> Option R} (ho : o.op = .nilCheck x) (hw : σ.wf) (h : zcs (σ.eval x) k = some r) : ∃ q, k q = some r /\ TQ P o σ q := by
 have hwx := zu hw x;unfold zcs at h;generalize hx : σ.eval x = a at h hwx;split at h
 ·exact ⟨_, h, hwx, by exact fun Y hY => zhm (σ := { σ.flat with H := Y }) ho ((zb hx (by simp)).trans (by simp only [TV.pv]))⟩
 ·exact ⟨_, h, hwx, by exact fun Y hY => zj6 (σ := { σ.flat with H := Y }) ho ((zb hx (by simp)).trans (by simp only [TV.pv]))⟩
 ·exact ⟨_, h, hwx, by exact fun Y hY => zj5 (σ := { σ.flat with H := Y }) ho ((zb hx (by simp)).trans (by simp only [TV.pv]))⟩
 ·cases h
def zco (fn : Fn) (first : List Operand) (caps : List TV) (k : TV -> Option R) : Option R :=
 match fn, first with
 | .func f, [] => k (.fn f caps)
 | _, _ => none
theorem zj3 {o : Oper} {fn : Fn} {first captured : Array Operand} {k : TV -> Option R} (ho : o.op = .makeFunc fn first captured) (hw : σ.wf)
  (h : zco fn first.toList (captured.toList.map σ.eval) k = some r) : ∃ q, k q = some r /\ TQ P o σ q := by
 unfold zco at h;split at h
 ·rename_i f hf;have hf' : first = #[] := by simpa using hf
  subst hf';refine ⟨_, h, ?_, fun Y hY => zP fun w c act hr => ⟨.func (.func f) #[] (captured.map act.eval), by simp [execOp, ho, Instr.makeFunc], ?_⟩⟩
  ·simp only [TV.wf];refine xm.2 fun t ht => ?_
   simp only [kj] at ht;obtain ⟨x, _, rfl⟩ := ht;exact zu hw x
  ·simp only [TV.pv, VR];refine ⟨_, rfl, by rw [xl]; simp, ?_⟩
   rw [xl];have hgd : Gd w c := ⟨_, _, hr.1⟩;refine jk hgd (z7y σ captured.toList) (zU fun i p hi => ?_)
   rw [kG] at hi;cases hx : captured.toList[i]? with
   | none => rw [hx] at hi; cases hi
   | some x =>
    rw [hx] at hi; simp at hi; subst hi;have hx' : captured[i]? = some x := by simpa using hx
    exact ⟨act.eval x, by simp [hx'], hr.2.eval x⟩
 ·cases h
def z2f (P : Program) (E : List Ent) (o : Oper) (σ : TS) (k : TV -> Option R) : Option R :=
 match o.op with
 | .move x => k (σ.eval x)
 | .assign x => k (σ.eval x)
 | .pick c x y => zom (σ.eval c) (σ.eval x) (σ.eval y) k
 | .binOp op t x y _ => zrw P op t (σ.eval x) (σ.eval y) k
 | .unOp op _ x => unK op (σ.eval x) k
 | .convert s t x => zk8 P σ.H s t (σ.eval x) k
 | .load t x => zg2 P σ.H t (σ.eval x) k
 | .fieldAddr t x i => zah P t i (σ.eval x) k
 | .indexAddr t x y => zam P t (σ.eval x) (σ.eval y) k
 | .field t x i => zkj P t i (σ.eval x) k
 | .index t x y => zks P t (σ.eval x) (σ.eval y) k
 | .build t parts => zjz P t (parts.toList.map fun x => (x.1, σ.eval x.2)) k
 | .buildSlice t len parts => z8l P t len (parts.toList.map fun x => (x.1, σ.eval x.2)) k
 | .extract x i => zeq i (σ.eval x) k
 | .nilCheck x => zcs (σ.eval x) k
 | .makeFunc fn first captured => zco fn first.toList (captured.toList.map σ.eval) k
 | .slice t x lo hi mx => zlq P σ t (σ.eval x) lo hi mx k
 | .call { callee := .builtin .append, args := xs, argTypes := ts } => zh5 P σ.H (xs.toList.map σ.eval) ts.toList k
 | .call { callee := .builtin b, args := xs, argTypes := ts } => biK P b (xs.toList.map σ.eval) ts.toList k
 | .call { callee := .value fo, args := xs, argTypes := _ } => zk4 E σ.H (σ.eval fo) (xs.toList.map σ.eval) k
 | _ => none
theorem zgf {E : List Ent} (hE : za3 P E) {o : Oper} {k : TV -> Option R} (hw : σ.wf) (h : z2f P E o σ k = some r) : ∃ q, k q = some r /\ TQ P o σ q := by
 unfold z2f at h;split at h
 ·rename_i x ho; exact ⟨_, h, zu hw x, fun Y hY => qle (zv8 ho rfl) (z2o σ x)⟩
 ·rename_i x ho; exact ⟨_, h, zu hw x, fun Y hY => qle (zss ho rfl) (z2o σ x)⟩
 ·rename_i ho; exact zqn ho hw h
 ·rename_i ho; exact zrx ho hw h
 ·rename_i ho; exact zup ho h
 ·rename_i ho; exact znw ho hw h
 ·rename_i t x ho;obtain ⟨q, h1, h2, h3⟩ := zia hw (zu hw x) h;refine ⟨q, h1, h2, ?_⟩;rcases vR σ x with e | e
  ·exact fun Y hY => zv7 (σ := { σ.flat with H := Y }) ho e (h3 Y fun b hb => hY b (by simp only [xf, ho]; exact hb))
  ·rw [e] at h; simp [zg2] at h
 ·rename_i ho; exact zha ho hw h
 ·rename_i ho; exact zhd ho hw h
 ·rename_i ho; exact zo2 ho hw h
 ·rename_i ho; exact zoa ho hw h
 ·rename_i ho; exact znr ho hw h
 ·rename_i ho; exact zfg ho hw h
 ·rename_i ho; exact zki ho hw h
 ·rename_i ho; exact zj4 ho hw h
 ·rename_i ho; exact zj3 ho hw h
 ·rename_i ho; exact zp5 ho hw h
 ·rename_i ho; exact zma ho hw h
 ·rename_i ho; exact zty ho hw h
 ·rename_i ho; exact zpx hE ho hw h
 ·cases h
end Go.Tm
