import Derived.Laws.Sem
import Derived.Laws.Cells
import Derived.Orders
open Go.Result renaming andThen_ok → kA
open Go.Sem renaming run_bind → kB, run_pure → kI, run_map → ka
open List renaming getElem?_eq_some_iff → kC, getElem?_replicate → kD, getElem?_append_left → kE, getElem?_append_right → kF, getElem?_map → kM, getElem?_take → kO, getElem?_set_self → kP, replicate → kQ, mem_of_mem_drop → kS, mem_of_mem_take → kT, getElem?_drop → kY, getElem?_set_ne → k0, mem_append → k9
open Nat renaming le_trans → kG, le_refl → kH, lt_of_lt_of_le → kJ, not_lt → kU, eq_of_beq_eq_true → kZ, beq → k8
open Array renaming getElem?_setIfInBounds_self_of_lt → kK, getElem?_setIfInBounds_ne → kN, getD_eq_getD_getElem? → kR, getElem?_eq_some_iff → kV, mapM_eq_mapM_toList → kW
open Bool renaming false_eq_true → kL
namespace Go.Ab
def gb : Nat := 0
def Glob (_ : World) : Prop := True
theorem Glob.stay {w w' : World} (_ : ∀ k, k < gb -> w'.heap[k]? = w.heap[k]?) (_ : Glob w) : Glob w' := trivial
inductive Tail where
 | no
 | full
 | tok (i sz : Nat)
inductive PV where
 | val (v : Value)
 | ptr (b off : Nat)
 | fz (cs : List PV)
 | sl (b off len cap : Nat)
 | tr (len : Nat) (cs : List PV) (t : Tail)
 | fn (f : FuncId) (caps : List PV)
 | agg (cs : List PV)
 | tup (vs : List PV)
 | ifc (t : TypeId) (v : PV)
 | mp (b : Nat)
 | one
 | dead
inductive Knd where
 | c (e : TypeId)
 | m (ag : Bool) (sz : Nat) (ks : List (Value × Nat)) (n : Nat)
instance : Coe TypeId Knd := ⟨.c⟩
inductive AObj where
 | row (cs : List PV) (e : Knd)
 | raw (o : Obj)
 | gone
structure Cx where
 m : List (Option Nat)
 T : List (Option (Nat × Nat))
 ok : Nat -> Nat -> Prop
 pn : Nat := 0
def vl : Value -> Bool
 | .bool _ | .int _ _ | .float _ _ | .string _ | .pointer none | .nilFunc | .nilIface | .map none | .func (.yield _) ⟨[]⟩ ⟨[]⟩ => true
 | _ => false
def nofz (fr : Nat × Nat) (n : Nat) : Prop := fr.1 = fr.2 \/ n <= fr.1
variable {n : Nat}
theorem nofz.no {fr : Nat × Nat} (h : nofz fr n) (i : Nat) (hi : i < n) : ¬(fr.1 <= i /\ i < fr.2) := by rcases h with h | h <;> omega
theorem z18 (n : Nat) : nofz (0, 0) n := .inl rfl
def Foot (w : World) (c : Cx) (a : Addr) (n : Nat) : Prop :=
 n = 0 \/ (a.spot = none /\ a.block < w.heap.size /\ some a.block ∉ c.m /\ (∀ i k : Nat, c.T[i]? = some (some (a.block, k)) -> a.off + n <= k) /\ c.ok a.block (a.off + n))
def TailOK (w : World) (c : Cx) (a : Addr) (len cap n : Nat) : Tail -> Prop
 | .no => True
 | .full => cap = len
 | .tok i sz => i < c.T.length /\ ∀ β k : Nat, c.T[i]? = some (some (β, k)) ->
   a = ⟨β, k - n, none⟩ /\ n <= k /\ n = len * sz /\ ∃ vs e fr, w.heap[β]? = some (.cells vs e fr) /\ a.off + cap * sz <= vs.size
def Tail.isTok : Tail -> Bool
 | .tok _ _ => true
 | _ => false
def leaf : PV -> Bool
 | .agg _ | .tup _ | .dead => false
 | _ => true
def zd (cs : List PV) : Prop := ∀ p, p ∈ cs -> leaf p = true
mutual
def VR (w : World) (c : Cx) : PV -> Value -> Prop
 | .val v, u => u = v /\ vl v = true
 | .ptr b off, u => ∃ k, c.m[b]? = some (some k) /\ u = .pointer (some ⟨k, off, none⟩)
 | .fz cs, u => ∃ a : Addr, u = .pointer (some a) /\ Foot w c a cs.length /\ zd cs /\ VRs w c cs (fun i => w.cell? ⟨a.block, a.off + i, none⟩)
 | .sl b off len sz, u => ((∃ ad, u = .slice ad 0 0) /\ len = 0) \/ ∃ k cap off', c.m[b]? = some (some k) /\ u = .slice (some ⟨k, off', none⟩) len cap /\ ((len = 0 /\ off ≠ 0) \/ off' = off) /\ len <= cap /\ ∃ (vs : Array Value) (e : TypeId) (fr : Nat × Nat), w.heap[k]? = some (Obj.cells vs e fr) /\ off' + cap * sz <= vs.size
 | .tr len cs t, u => (u = .slice none 0 0 /\ len = 0 /\ cs = [] /\ t.isTok = false) \/
   ∃ (a : Addr) (cap : Nat), u = .slice (some a) len cap /\ len <= cap /\ Foot w c a cs.length /\ TailOK w c a len cap cs.length t /\ zd cs /\
    VRs w c cs (fun i => w.cell? ⟨a.block, a.off + i, none⟩)
 | .fn f caps, u => ∃ cv : Array Value, u = .func (.func f) #[] cv /\ cv.size = caps.length /\ VRs w c caps (fun i => cv[i]?)
 | .agg cs, u => ∃ cv : Array Value, u = .agg cv /\ cv.size = cs.length /\ zd cs /\ VRs w c cs (fun i => cv[i]?)
 | .tup cs, u => ∃ cv : Array Value, u = .tuple cv /\ cv.size = cs.length /\ VRs w c cs (fun i => cv[i]?)
 | .ifc t p, u => ∃ v, u = .iface t v /\ VR w c p v
 | .mp b, u => ∃ k, c.m[b]? = some (some k) /\ u = .map (some k)
 | .one, u => u.oneCell' = true
 | .dead, _ => True
def VRs (w : World) (c : Cx) : List PV -> (Nat -> Option Value) -> Prop
 | [], _ => True
 | p :: ps, f => (∃ v, f 0 = some v /\ VR w c p v) /\ VRs w c ps (fun i => f (i + 1))
end
structure Ext (w : World) (c : Cx) (w' : World) (c' : Cx) : Prop where
 os : w'.os = w.os
 tape : w'.tape = w.tape
 output : w'.output = w.output
 size : w.heap.size <= w'.heap.size
 ids : ∀ b k : Nat, c.m[b]? = some (some k) -> c'.m[b]? = some (some k)
 new : ∀ k : Nat, some k ∈ c'.m -> some k ∈ c.m \/ w.heap.size <= k
 blocks : ∀ k : Nat, k < w.heap.size -> some k ∉ c.m -> (∀ i j : Nat, c.T[i]? ≠ some (some (k, j))) -> w'.heap[k]? = w.heap[k]?
 cells : ∀ k : Nat, k < w.heap.size -> some k ∉ c.m -> ∀ off v, (∀ i j : Nat, c.T[i]? = some (some (k, j)) -> off < j) ->
  w.cell? ⟨k, off, none⟩ = some v -> w'.cell? ⟨k, off, none⟩ = some v
 toks : ∀ i k j : Nat, c'.T[i]? = some (some (k, j)) -> w.heap.size <= k \/ ∃ i' j' : Nat, c.T[i']? = some (some (k, j')) /\ j' <= j
 stay : ∀ i k j : Nat, i < c.T.length -> c'.T[i]? = some (some (k, j)) -> c.T[i]? = some (some (k, j)) /\ w'.heap[k]? = w.heap[k]?
 tlen : c.T.length <= c'.T.length
 room : ∀ (k : Nat) (vs : Array Value) (e : TypeId) (fr : Nat × Nat), w.heap[k]? = some (Obj.cells vs e fr) -> ∃ (vs' : Array Value) (fr' : Nat × Nat), w'.heap[k]? = some (Obj.cells vs' e fr') /\ vs'.size = vs.size
 ok : c'.ok = c.ok
 pn : c'.pn = c.pn
theorem Ext.refl (w : World) (c : Cx) : Ext w c w c where
 os := rfl
 tape := rfl
 output := rfl
 size := kH _
 ids := fun _ _ h => h
 new := fun _ h => .inl h
 blocks := fun _ _ _ _ => rfl
 cells := fun _ _ _ _ _ _ h => h
 toks := fun i _ j h => .inr ⟨i, j, h, kH _⟩
 stay := fun _ _ _ _ h => ⟨h, rfl⟩
 tlen := kH _
 room := fun _ vs _ fr h => ⟨vs, fr, h, rfl⟩
 ok := rfl
 pn := rfl
theorem Ext.trans {w w1 w2 : World} {c c1 c2 : Cx} (h : Ext w c w1 c1) (g : Ext w1 c1 w2 c2) : Ext w c w2 c2 where
 os := g.os.trans h.os
 tape := g.tape.trans h.tape
 output := g.output.trans h.output
 size := kG h.size g.size
 ids := fun b _ x => g.ids b _ (h.ids b _ x)
 new := fun _ x => (g.new _ x).elim (fun y => h.new _ y) (fun y => .inr (kG h.size y))
 blocks := fun k hk hm ht => by
  have hm1 : some k ∉ c1.m := fun x => (h.new k x).elim hm (fun y => absurd hk (kU.2 y))
  rw [g.blocks k (kJ hk h.size) hm1 ?_, h.blocks k hk hm ht];intro i j e;rcases h.toks i k j e with y | ⟨i', j', e', _⟩
  ·exact absurd hk (kU.2 y)
  ·exact ht _ _ e'
 cells := fun k hk hm off v ht hv => by
  have hm1 : some k ∉ c1.m := fun x => (h.new k x).elim hm (fun y => absurd hk (kU.2 y))
  refine g.cells k (kJ hk h.size) hm1 off v ?_ (h.cells k hk hm off v ht hv);intro i j e;rcases h.toks i k j e with y | ⟨i', j', e', le⟩
  ·exact absurd hk (kU.2 y)
  ·exact kJ (ht _ _ e') le
 toks := fun i k j e => by
  rcases g.toks i k j e with y | ⟨i', j', e', le⟩
  ·exact .inl (kG h.size y)
  ·rcases h.toks i' k j' e' with y | ⟨i2, j2, e2, le2⟩
   ·exact .inl y
   ·exact .inr ⟨i2, j2, e2, kG le2 le⟩
 stay := fun i k j hi e => by
  obtain ⟨e1, h1⟩ := g.stay i k j (kJ hi h.tlen) e;obtain ⟨e2, h2⟩ := h.stay i k j hi e1;exact ⟨e2, h1.trans h2⟩
 tlen := kG h.tlen g.tlen
 room := fun k vs e fr h0 => by
  obtain ⟨vs1, fr1, h1, e1⟩ := h.room k vs e fr h0;obtain ⟨vs2, fr2, h2, e2⟩ := g.room k vs1 e fr1 h1;exact ⟨vs2, fr2, h2, e2.trans e1⟩
 ok := g.ok.trans h.ok
 pn := g.pn.trans h.pn
structure Gl (w : World) (c : Cx) : Prop where
 sz : gb <= w.heap.size
 m : ∀ k : Nat, some k ∈ c.m -> gb <= k
 T : ∀ i k j : Nat, c.T[i]? = some (some (k, j)) -> gb <= k
 var : Glob w
theorem Gl.ext {w w' : World} {c c' : Cx} (g : Gl w c) (x : Ext w c w' c') : Gl w' c' where
 sz := kG g.sz x.size
 m := fun k h => (x.new k h).elim (g.m k) (kG g.sz)
 T := fun i k j h => (x.toks i k j h).elim (kG g.sz) fun ⟨i', j', h', _⟩ => g.T i' k j' h'
 var := Glob.stay (fun k hk => x.blocks k (kJ hk g.sz) (fun h => kU.2 (g.m k h) hk) (fun i j h => kU.2 (g.T i k j h) hk)) g.var
variable {w : World}
theorem Gl.sub {c c' : Cx} (g : Gl w c) (hm : ∀ k : Nat, some k ∈ c'.m -> some k ∈ c.m) (hT : ∀ i k j : Nat, c'.T[i]? = some (some (k, j)) -> ∃ i' : Nat, c.T[i']? = some (some (k, j))) : Gl w c' where
 sz := g.sz
 m := fun k h => g.m k (hm k h)
 T := fun i k j h => (hT i k j h).elim fun i' h' => g.T i' k j h'
 var := g.var
variable {a : Addr}
theorem Foot.ext {w w' : World} {c c' : Cx} (x : Ext w c w' c') (h : Foot w c a n) : Foot w' c' a n := by
 rcases h with h | ⟨hs, hb, hm, ht, ho⟩
 ·exact .inl h
 ·refine .inr ⟨hs, kJ hb x.size, fun y => (x.new _ y).elim hm (fun z => absurd hb (kU.2 z)), fun i k e => ?_, by rw [x.ok]; exact ho⟩
  rcases x.toks i _ k e with y | ⟨i', j', e', le⟩
  ·exact absurd hb (kU.2 y)
  ·exact kG (ht _ _ e') le
theorem TailOK.ext {w w' : World} {c c' : Cx} (x : Ext w c w' c') {len cap n : Nat} {t : Tail} (h : TailOK w c a len cap n t) : TailOK w' c' a len cap n t := by
 cases t with
 | no => exact trivial
 | full => exact h
 | tok i sz =>
  obtain ⟨hi, h⟩ := h;refine ⟨kJ hi x.tlen, fun β k e => ?_⟩
  obtain ⟨e0, hh⟩ := x.stay i β k hi e;obtain ⟨h1, h2, h3, vs, el, fr, h4, h5⟩ := h β k e0;exact ⟨h1, h2, h3, vs, el, fr, hh.trans h4, h5⟩
mutual
theorem VR.ext {w w' : World} {c c' : Cx} (x : Ext w c w' c') : ∀ (p : PV) {v : Value}, VR w c p v -> VR w' c' p v
 | .val _, _, h => by simp only [VR] at h ⊢; exact h
 | .ptr b off, _, h => by
  simp only [VR] at h ⊢;obtain ⟨k, h1, h2⟩ := h;exact ⟨k, x.ids _ _ h1, h2⟩
 | .fz cs, _, h => by
  simp only [VR] at h ⊢;obtain ⟨a, h1, h2, hl, h3⟩ := h;refine ⟨a, h1, h2.ext x, hl, VRs.ext x cs ?_ h3⟩;intro i hi v hv;rcases h2 with h2 | ⟨hs, hb, hm, ht, _⟩
  ·omega
  ·exact x.cells _ hb hm _ v (fun j k e => by have := ht j k e; omega) hv
 | .sl b off len sz, _, h => by
  simp only [VR] at h ⊢;rcases h with h | ⟨k, cap, off', h1, h2, h0, h3, vs, e, fr, h4, h5⟩
  ·exact .inl h
  ·obtain ⟨vs', fr', h6, h7⟩ := x.room k vs e fr h4;exact .inr ⟨k, cap, off', x.ids _ _ h1, h2, h0, h3, vs', e, fr', h6, by omega⟩
 | .tr len cs t, _, h => by
  simp only [VR] at h ⊢;rcases h with h | ⟨a, cap, h1, hc, h2, h4, hl, h3⟩
  ·exact .inl h
  ·refine .inr ⟨a, cap, h1, hc, h2.ext x, h4.ext x, hl, VRs.ext x cs ?_ h3⟩;intro i hi v hv;rcases h2 with h2 | ⟨hs, hb, hm, ht, _⟩
   ·omega
   ·exact x.cells _ hb hm _ v (fun j k e => by have := ht j k e; omega) hv
 | .fn f caps, _, h => by
  simp only [VR] at h ⊢;obtain ⟨cv, h1, h2, h3⟩ := h;exact ⟨cv, h1, h2, VRs.ext x caps (fun _ _ _ e => e) h3⟩
 | .agg cs, _, h => by
  simp only [VR] at h ⊢;obtain ⟨cv, h1, h2, hl, h3⟩ := h;exact ⟨cv, h1, h2, hl, VRs.ext x cs (fun _ _ _ e => e) h3⟩
 | .tup cs, _, h => by
  simp only [VR] at h ⊢;obtain ⟨cv, h1, h2, h3⟩ := h;exact ⟨cv, h1, h2, VRs.ext x cs (fun _ _ _ e => e) h3⟩
 | .ifc t p, _, h => by
  simp only [VR] at h ⊢;obtain ⟨v, h1, h2⟩ := h;exact ⟨v, h1, VR.ext x p h2⟩
 | .mp b, _, h => by
  simp only [VR] at h ⊢;obtain ⟨k, h1, h2⟩ := h;exact ⟨k, x.ids _ _ h1, h2⟩
 | .one, _, h => by simp only [VR] at h ⊢; exact h
 | .dead, _, _ => by simp only [VR]
theorem VRs.ext {w w' : World} {c c' : Cx} (x : Ext w c w' c') : ∀ (ps : List PV) {f g : Nat -> Option Value},
  (∀ i, i < ps.length -> ∀ v, f i = some v -> g i = some v) -> VRs w c ps f -> VRs w' c' ps g
 | [], _, _, _, _ => by simp only [VRs]
 | p :: ps, f, g, hfg, h => by
  simp only [VRs] at h ⊢;obtain ⟨⟨v, h1, h2⟩, h3⟩ := h;exact ⟨⟨v, hfg 0 (by simp) v h1, VR.ext x p h2⟩, VRs.ext x ps (fun i hi u hu => hfg (i + 1) (by simp; omega) u hu) h3⟩
end
structure AS where
 n : Nat
 slots : List (Nat × PV)
 H : List AObj
 ts : List Bool
def look : List (Nat × PV) -> Nat -> Option PV
 | [], _ => none
 | (t, p) :: r, s => bif k8 t s then some p else look r s
def ofV : Value -> PV
 | .bool b => .val (.bool b)
 | .int k n => .val (.int k n)
 | .string s => .val (.string s)
 | .pointer none => .val (.pointer none)
 | .nilFunc => .val .nilFunc
 | .nilIface => .val .nilIface
 | .map none => .val (.map none)
 | .slice none 0 0 => .tr 0 [] .full
 | .func (.func f) ⟨[]⟩ ⟨[]⟩ => .fn f []
 | .tuple ⟨[]⟩ => .tup []
 | _ => .dead
def AS.get (σ : AS) (t : Nat) : PV := bif Nat.blt t σ.n then (look σ.slots t).getD .dead else .dead
def AS.eval (σ : AS) : Operand -> PV
 | .tmp t => σ.get t
 | .const v => ofV v
 | .global _ => .dead
 | .func f => .fn f []
def AS.put (σ : AS) (d : Option Nat) (p : PV) : AS :=
 match d with
 | some d => { σ with slots := (d, p) :: σ.slots }
 | none => σ
def SlotsR (w : World) (c : Cx) (σ : AS) (tmps : Array Value) : Prop :=
 tmps.size = σ.n /\ ∀ t p, look σ.slots t = some p -> t < σ.n -> ∃ v, tmps[t]? = some v /\ VR w c p v
def zuu (ag : Bool) (sz : Nat) (v : Value) : Prop := if ag = true then ∃ cv : Array Value, v = .agg cv /\ cv.size = sz else sz = 1 /\ v.cells = #[v]
def BlockOf (w : World) (k : Nat) (vs : Array Value) : Knd -> Prop
 | .c e => ∃ fr, w.heap[k]? = some (.cells vs e fr) /\ nofz fr vs.size
 | .m ag sz ks n => ∃ es : Array MapEntry, w.heap[k]? = some (.map es n) /\ (es.toList.map fun x => (x.key, x.born)) = ks /\ (∀ x, x ∈ es.toList -> zuu ag sz x.val) /\ vs.toList = es.toList.flatMap fun x => x.val.cells.toList
theorem BlockOf.pass {w w' : World} {k : Nat} {vs : Array Value} {e : Knd} (h : BlockOf w k vs e) (hk : w'.heap[k]? = w.heap[k]?) : BlockOf w' k vs e := by
 cases e with
 | c e => obtain ⟨fr, h1, h2⟩ := h; exact ⟨fr, hk.trans h1, h2⟩
 | m ag sz ks n => obtain ⟨es, h1, h2⟩ := h; exact ⟨es, hk.trans h1, h2⟩
theorem BlockOf.at' {k : Nat} {vs : Array Value} {e : Knd} (h : BlockOf w k vs e) : ∃ o, w.heap[k]? = some o := by
 cases e with
 | c e => obtain ⟨fr, h1, h2⟩ := h; exact ⟨_, h1⟩
 | m ag sz ks n => obtain ⟨es, h1, h2⟩ := h; exact ⟨_, h1⟩
def ObjC (w : World) (c : Cx) (b : Nat) : AObj -> Prop
 | .row cs e => (cs = [] /\ c.m[b]? = some none) \/ ∃ k vs, c.m[b]? = some (some k) /\ BlockOf w k vs e /\ cs.length <= vs.size /\ zd cs /\ VRs w c cs (fun i => vs[i]?)
 | .raw o => ∃ k, c.m[b]? = some (some k) /\ w.heap[k]? = some o
 | .gone => c.m[b]? = some none
theorem ObjC.row {w : World} {c : Cx} {b k : Nat} {cs : List PV} {e : TypeId} (h : ObjC w c b (.row cs e)) (hk : c.m[b]? = some (some k)) :
  ∃ vs fr, w.heap[k]? = some (.cells vs e fr) /\ nofz fr vs.size /\ cs.length <= vs.size /\ zd cs /\ VRs w c cs (fun i => vs[i]?) := by
 rcases h with ⟨_, h⟩ | ⟨k', vs, h1, ⟨fr, h2, h3⟩, h4⟩
 ·rw [hk] at h; cases h
 ·rw [hk] at h1; cases h1; exact ⟨vs, fr, h2, h3, h4⟩
theorem ObjC.to {w w' : World} {c c' : Cx} {b b' : Nat} {cs cs2 : List PV} {e : Knd} (h : ObjC w c b (.row cs e)) (hn : c.m[b]? = some none -> c'.m[b']? = some none)
  (hk : ∀ k : Nat, c.m[b]? = some (some k) -> c'.m[b']? = some (some k) /\ w'.heap[k]? = w.heap[k]?) (hl : cs2.length = cs.length) (hf : zd cs2) (hv : ∀ fv, VRs w c cs fv -> VRs w' c' cs2 fv) : ObjC w' c' b' (.row cs2 e) := by
 rcases h with ⟨h1, h2⟩ | ⟨k, vs, h1, h2, h3, h4, h5⟩
 ·exact .inl ⟨List.length_eq_zero_iff.1 (by rw [hl, h1]; rfl), hn h2⟩
 ·exact .inr ⟨k, vs, (hk k h1).1, h2.pass (hk k h1).2, by rw [hl]; exact h3, hf, hv _ h5⟩
theorem ObjC.see {w w' : World} {c c' : Cx} {b b' : Nat} {o : AObj} (h : ObjC w c b o) (hn : c.m[b]? = some none -> c'.m[b']? = some none)
  (hk : ∀ k : Nat, c.m[b]? = some (some k) -> c'.m[b']? = some (some k) /\ w'.heap[k]? = w.heap[k]?) (hv : ∀ (cs : List PV) f, VRs w c cs f -> VRs w' c' cs f) : ObjC w' c' b' o := by
 cases o with
 | row cs e =>
  rcases h with ⟨h1, h2⟩ | ⟨k, vs, h1, h2, h3, h4, h5⟩
  ·exact .inl ⟨h1, hn h2⟩
  ·exact .inr ⟨k, vs, (hk k h1).1, h2.pass (hk k h1).2, h3, h4, hv _ _ h5⟩
 | raw o =>
  obtain ⟨k, h1, h2⟩ := h;exact ⟨k, (hk k h1).1, (hk k h1).2.trans h2⟩
 | gone => exact hn h
theorem ObjC.pass {w w' : World} {c c' : Cx} {b : Nat} {o : AObj} (x : Ext w c w' c') (hm : ∀ k : Nat, c.m[b]? = some (some k) -> c'.m[b]? = some (some k) /\ w'.heap[k]? = w.heap[k]?)
  (hn : c.m[b]? = some none -> c'.m[b]? = some none) (h : ObjC w c b o) : ObjC w' c' b o := h.see hn hm fun cs _ => VRs.ext x cs fun _ _ _ e => e
structure Good (w : World) (c : Cx) (H : List AObj) (ts : List Bool) : Prop where
 len : c.m.length = H.length
 inj : ∀ i j k : Nat, c.m[i]? = some (some k) -> c.m[j]? = some (some k) -> i = j
 obj : ∀ b o, H[b]? = some o -> ObjC w c b o
 tl : c.T.length = ts.length
 tal : ∀ i : Nat, ts[i]? = some true -> ∃ k j, c.T[i]? = some (some (k, j))
 tdead : ∀ i : Nat, ts[i]? = some false -> c.T[i]? = some none
 tok : ∀ i k j : Nat, c.T[i]? = some (some (k, j)) -> some k ∉ c.m /\ ∃ vs e fr, w.heap[k]? = some (.cells vs e fr) /\ nofz fr vs.size /\ j <= vs.size
 tinj : ∀ i i' k j j' : Nat, c.T[i]? = some (some (k, j)) -> c.T[i']? = some (some (k, j')) -> i = i'
 okn : ∀ k e, w.heap.size <= k -> c.ok k e
 okm : ∀ k e e', c.ok k e -> e' <= e -> c.ok k e'
 okt : ∀ i k j : Nat, c.T[i]? = some (some (k, j)) -> ∀ e, c.ok k e
 oko : ∀ b k : Nat, c.pn <= b -> c.m[b]? = some (some k) -> ∀ e, c.ok k e
 gl : Gl w c
def RelC (w : World) (c : Cx) (σ : AS) (a : Act) : Prop := Good w c σ.H σ.ts /\ SlotsR w c σ a.tmps
variable {c : Cx}
theorem ObjC.lt {H : List AObj} {ts : List Bool} (g : Good w c H ts) {b k : Nat} (h : c.m[b]? = some (some k)) : k < w.heap.size := by
 have hb : b < H.length := by
  rw [<- g.len]; exact (kC.1 h).1
 have ho := g.obj b H[b] (List.getElem?_eq_getElem hb);have key : ∃ o, w.heap[k]? = some o := by
  generalize H[b] = o at ho;cases o with
  | row cs e =>
   rcases ho with ⟨_, h'⟩ | ⟨k', vs, h1, h2, _⟩
   ·rw [h] at h'; cases h'
   ·rw [h] at h1; cases h1; exact h2.at'
  | raw o =>
   obtain ⟨k', h1, h2⟩ := ho;rw [h] at h1; cases h1; exact ⟨_, h2⟩
  | gone => rw [ObjC, h] at ho; cases ho
 obtain ⟨o, ho⟩ := key;exact (kV.1 ho).1
theorem Good.mlt {H : List AObj} {ts : List Bool} (g : Good w c H ts) {k : Nat} (h : some k ∈ c.m) : k < w.heap.size := by
 obtain ⟨i, hi⟩ := List.mem_iff_getElem?.1 h;exact ObjC.lt g hi
theorem Good.tlt {H : List AObj} {ts : List Bool} (g : Good w c H ts) {i k j : Nat} (h : c.T[i]? = some (some (k, j))) : k < w.heap.size := by
 obtain ⟨_, vs, e, fr, h1, _⟩ := g.tok i k j h;exact (kV.1 h1).1
theorem Good.ext {w w' : World} {c : Cx} {H : List AObj} {ts : List Bool} (g : Good w c H ts) (x : Ext w c w' c)
  (hb : ∀ b k : Nat, c.m[b]? = some (some k) -> w'.heap[k]? = w.heap[k]?) : Good w' c H ts where
 len := g.len
 inj := g.inj
 obj := fun b o h => by
  exact (g.obj b o h).pass x (fun k hk => ⟨hk, hb b k hk⟩) id
 tl := g.tl
 tal := g.tal
 tdead := g.tdead
 tok := fun i k j h => by
  obtain ⟨h1, vs, e, fr, h2, h3⟩ := g.tok i k j h;exact ⟨h1, vs, e, fr, ((x.stay i k j (kC.1 h).1 h).2).trans h2, h3⟩
 tinj := g.tinj
 okn := fun k e h => g.okn k e (kG x.size h)
 okm := g.okm
 okt := g.okt
 oko := g.oko
 gl := g.gl.ext x
theorem SlotsR.ext {w w' : World} {c c' : Cx} {σ : AS} {tmps : Array Value} (h : SlotsR w c σ tmps) (x : Ext w c w' c') : SlotsR w' c' σ tmps :=
 ⟨h.1, fun t p hl hn => let ⟨v, h1, h2⟩ := h.2 t p hl hn; ⟨v, h1, h2.ext x⟩⟩
theorem z46 (v : Value) : VR w c .dead v := by simp only [VR]
variable {v : Value}
theorem yH (h : vl v = true) : VR w c (.val v) v := by simp only [VR]; exact ⟨trivial, h⟩
theorem zpi (v : Value) : VR w c (ofV v) v := by
 unfold ofV;split <;> first | (exact yH rfl) | (exact z46 _) | skip
 ·simp only [VR]; exact .inl ⟨trivial, trivial, trivial, rfl⟩
 ·simp only [VR]; exact ⟨#[], rfl, rfl, trivial⟩
 ·simp only [VR]; exact ⟨#[], rfl, rfl, trivial⟩
theorem SlotsR.eval {w : World} {c : Cx} {σ : AS} {a : Act} (h : SlotsR w c σ a.tmps) (x : Operand) : VR w c (σ.eval x) (a.eval x) := by
 cases x with
 | tmp t =>
  simp only [AS.eval, AS.get, Act.eval];cases hb : Nat.blt t σ.n with
  | false => exact z46 _
  | true =>
   have hn : t < σ.n := Nat.blt_eq.mp hb;simp only [cond_true];cases hl : look σ.slots t with
   | none => exact z46 _
   | some p =>
    obtain ⟨v, h1, h2⟩ := h.2 t p hl hn;have : a.tmps.getD t undef = v := by simp [kR, h1]
    rw [this]; exact h2
 | const v => exact zpi v
 | global g => exact z46 _
 | func f => simp only [AS.eval, Act.eval, VR]; exact ⟨#[], rfl, rfl, trivial⟩
theorem SlotsR.put {w : World} {c : Cx} {σ : AS} {a : Act} (h : SlotsR w c σ a.tmps) (d : Option Nat) {p : PV} {v : Value} (hv : VR w c p v) :
  SlotsR w c (σ.put d p) (a.put d v).tmps := by
 cases d with
 | none => exact h
 | some d =>
  refine ⟨by simp only [Act.put, AS.put, Array.size_setIfInBounds]; exact h.1, fun t q hl hn => ?_⟩
  simp only [AS.put, look] at hl hn;simp only [Act.put]
  by_cases e : d = t
  ·subst e;simp only [Nat.beq_refl, cond_true, Option.some.injEq] at hl;subst hl;exact ⟨v, by rw [kK (by rw [h.1]; exact hn)], hv⟩
  ·have hne : k8 d t = false := by
    cases hb : k8 d t with
    | false => rfl
    | true => exact absurd (kZ hb) e
   rw [hne] at hl;simp only [cond_false] at hl;obtain ⟨u, h1, h2⟩ := h.2 t q hl hn;exact ⟨u, by rw [kN e]; exact h1, h2⟩
def QStep (P : Program) (o : Oper) (σ : AS) (p : PV) : Prop :=
 ∀ c a w (K : Act -> World -> Prop) Q, RelC w c σ a ->
  (∀ v w', VR w' c p v -> Good w' c σ.H σ.ts -> Ext w c w' c -> K (a.put o.dst v) w') -> o.wp P a w K Q
def Step (P : Program) (o : Oper) (σ : AS) (N : AS -> Prop) : Prop :=
 ∀ c a w (K : Act -> World -> Prop) Q, RelC w c σ a ->
  (∀ c' a' w' σ', N σ' -> RelC w' c' σ' a' -> Ext w c w' c' -> a'.defers = a.defers -> K a' w') -> o.wp P a w K Q
theorem Act.put_defers' (a : Act) (d : Option Nat) (v : Value) : (a.put d v).defers = a.defers := by cases d <;> rfl
variable {P : Program} {o : Oper} {σ : AS}
theorem QStep.step {p : PV} {N : AS -> Prop} (h : QStep P o σ p) (hN : N (σ.put o.dst p)) : Step P o σ N := by
 intro c a w K Q hr hK;refine h c a w K Q hr (fun v w' hv hg hx => hK c _ w' _ hN ⟨?_, ?_⟩ hx (Act.put_defers' _ _ _))
 ·cases ho : o.dst <;> simpa [AS.put] using hg
 ·exact (hr.2.ext hx).put o.dst hv
def ql (ops : Array Oper) (σ : AS) (o : Oper) : Option Bool :=
 match o.guard with
 | none => some true
 | some (j, want) =>
  match (ops[j]?).bind (·.dst) with
  | none => some false
  | some d => match σ.get d with
   | .val (.bool b) => some (b == want)
   | .tup _ => some false
   | _ => none
theorem z6v : VR w c (.tup []) undef := by
 simp only [VR]; exact ⟨#[], rfl, rfl, trivial⟩
theorem yZ {a : Act} {ops : Array Oper} {g : Bool} (h : SlotsR w c σ a.tmps)
  (hg : ql ops σ o = some g) : Region.wanted o (yielded ops a.tmps) = g := by
 unfold ql at hg;unfold Region.wanted yielded;cases ho : o.guard with
 | none => rw [ho] at hg; cases hg; rfl
 | some jw =>
  obtain ⟨j, want⟩ := jw;rw [ho] at hg;simp only at hg ⊢;cases hd : (ops[j]?).bind (·.dst) with
  | none =>
   rw [hd] at hg; cases hg;rfl
  | some d =>
   rw [hd] at hg;simp only [Option.bind_some] at hg ⊢;have he := h.eval (.tmp d);simp only [AS.eval] at he;cases hq : σ.get d <;> rw [hq] at hg <;> first | (cases hg; done) | skip
   case tup cs =>
    cases hg;rw [hq] at he;simp only [VR] at he;obtain ⟨cv, he, _⟩ := he;simp only [Act.eval, kR] at he;cases hs : a.tmps[d]? with
    | none => simp
    | some u =>
     rw [hs] at he;simp at he;subst he;simp
   rename_i v;cases v <;> try (cases hg)
   rename_i b;rw [hq] at he;simp only [VR] at he;have hdn : d < σ.n := by
    cases hb : Nat.blt d σ.n with
    | true => exact Nat.blt_eq.mp hb
    | false => simp [AS.get, hb] at hq
   have hs : a.tmps[d]? = some (.bool b) := by
    have hlt : d < a.tmps.size := by rw [h.1]; exact hdn
    have := he.1;simp only [Act.eval, kR, Array.getElem?_eq_getElem hlt, Option.getD_some] at this;rw [Array.getElem?_eq_getElem hlt, this]
   rw [hs];cases b <;> cases want <;> rfl
def zh2 (P : Program) (ops : Array Oper) : List Nat -> AS -> (AS -> Prop) -> Prop
 | [], σ, N => N σ
 | i :: r, σ, N => ∃ o g, ops[i]? = some o /\ ql ops σ o = some g /\
   if g = true then Step P o σ (fun σ' => zh2 P ops r σ' N) else zh2 P ops r (σ.put o.dst (.tup [])) N
def AW (P : Program) (x : Code) (σ : AS) (Q : Exit -> AS -> Prop) : Prop :=
 ∀ c a w (Q' : Exit -> Act -> World -> Prop), RelC w c σ a ->
  (∀ e c' a' w' σ', Q e σ' -> RelC w' c' σ' a' -> Ext w c w' c' -> a'.defers = a.defers -> Q' e a' w') -> x.wp P Q' a w
theorem zp1 {ops : Array Oper} {N : AS -> Prop} (l : List Nat) : ∀ {σ : AS} {c : Cx} {a : Act} {w : World} {Q' : Exit -> Act -> World -> Prop},
  zh2 P ops l σ N -> RelC w c σ a ->
  (∀ c' a' w' σ', N σ' -> RelC w' c' σ' a' -> Ext w c w' c' -> a'.defers = a.defers -> Q' .normal a' w') -> wpOps P ops Q' l a w := by
 induction l with
 | nil => exact fun h hr hK => hK _ _ _ _ h hr (Ext.refl _ _) rfl
 | cons i r ih =>
  intro σ c a w Q' h hr hK;obtain ⟨o, g, ho, hg, h⟩ := h;simp only [wpOps, ho];rw [yZ hr.2 hg];cases g with
  | true =>
   simp only [if_true] at h ⊢;refine .inl (h c a w _ Q' hr fun c' a' w' σ' hN hr' hx hd => ?_)
   exact ih hN hr' fun c2 a2 w2 σ2 hN2 hr2 hx2 hd2 => hK c2 a2 w2 σ2 hN2 hr2 (hx.trans hx2) (hd2.trans hd)
  | false =>
   simp only [kL, if_false] at h ⊢;refine ih h ⟨?_, hr.2.put o.dst z6v⟩ fun c2 a2 w2 σ2 hN2 hr2 hx2 hd2 => hK c2 a2 w2 σ2 hN2 hr2 hx2 (hd2.trans (Act.put_defers' _ _ _))
   have := hr.1;cases o.dst <;> simpa [AS.put] using this
def thn (N : AS -> Prop) (Q : Exit -> AS -> Prop) : Exit -> AS -> Prop
 | .normal, σ => N σ
 | e, σ => Q e σ
theorem AW.mono {x : Code} {Q R : Exit -> AS -> Prop} (h : AW P x σ Q) (hq : ∀ e σ, Q e σ -> R e σ) : AW P x σ R :=
 fun c a w Q' hr hK => h c a w Q' hr fun e c' a' w' σ' hQ => hK e c' a' w' σ' (hq _ _ hQ)
theorem AW.region {P : Program} {id : Nat} {ops : Array Oper} {σ : AS} {Q : Exit -> AS -> Prop} (h : zh2 P ops (List.range ops.size) σ (Q .normal)) :
  AW P (.region id ops false) σ Q :=
 fun _ _ _ _ hr hK => wp_region (zp1 _ h hr fun c' a' w' σ' hN hr' hx hd => hK .normal c' a' w' σ' hN hr' hx hd)
theorem AW.ret {P : Program} {σ : AS} {Q : Exit -> AS -> Prop} (h : Q .ret σ) : AW P .ret σ Q :=
 fun c a w _ hr hK => wp_ret (hK .ret c a w σ h hr (Ext.refl _ _) rfl)
theorem AW.exit {P : Program} {id : Nat} {σ : AS} {Q : Exit -> AS -> Prop} (h : Q (.exit id) σ) : AW P (.exit id) σ Q :=
 fun c a w _ hr hK => wp_exit (hK (.exit id) c a w σ h hr (Ext.refl _ _) rfl)
def ztm (id : Nat) (Q : Exit -> AS -> Prop) : Exit -> AS -> Prop
 | .exit id', σ => bif k8 id' id then Q .normal σ else Q (.exit id') σ
 | e, σ => Q e σ
theorem AW.block {P : Program} {id : Nat} {x : Code} {σ : AS} {Q : Exit -> AS -> Prop} (h : AW P x σ (ztm id Q)) : AW P (.block id x) σ Q := by
 intro c a w Q' hr hK;refine wp_block (h c a w _ hr fun e c' a' w' σ' hQ hr' hx hd => ?_)
 cases e with
 | exit id' =>
  simp only [ztm] at hQ;simp only [Exit.inBlock];split
  ·rename_i e;have : k8 id' id = true := by rw [e]; exact Nat.beq_refl id
   rw [this] at hQ; exact hK _ c' a' w' σ' hQ hr' hx hd
  ·rename_i e;have : k8 id' id = false := by
    cases hb : k8 id' id with
    | false => rfl
    | true => exact absurd (kZ hb) e
   rw [this] at hQ; exact hK _ c' a' w' σ' hQ hr' hx hd
 | _ => exact hK _ c' a' w' σ' hQ hr' hx hd
theorem AW.loop {P : Program} {x : Code} {σ : AS} {Q : Exit -> AS -> Prop} {S : Type} (I : S -> AS -> Prop) (μ : S -> Nat) (s : S) (h0 : I s σ)
  (hr : ∀ s σ, I s σ -> AW P x σ (thn (fun σ' => ∃ s', I s' σ' /\ μ s' < μ s) Q)) : AW P (.loop x) σ Q := by
 intro c a w Q' hrel hK;have key : ∀ n s σ (c' : Cx) a' w', μ s = n -> I s σ -> RelC w' c' σ a' -> Ext w c w' c' -> a'.defers = a.defers -> ∀ b k cs,
   ∃ e a2 w2, Q' e a2 w2 /\ Arrives P (lone (b.at a' (.code x :: .inLoop x :: k)) cs w') b k cs e a2 w2 := by
  intro n
  induction n using Nat.strongRecOn with
  | _ n ih =>
   intro s σ c' a' w' hn hI hrel' hx hd b k cs;have hround := hr s σ hI c' a' w'
    (Exit.then (fun a2 w2 => ∃ s' σ2 c2, I s' σ2 /\ RelC w2 c2 σ2 a2 /\ Ext w c w2 c2 /\ a2.defers = a.defers /\ μ s' < n) Q') hrel' (fun e c2 a2 w2 σ2 hQ hr2 hx2 hd2 => by
    cases e with
    | normal =>
     obtain ⟨s', hI', hlt⟩ := hQ;exact ⟨s', σ2, c2, hI', hr2, hx.trans hx2, hd2.trans hd, hn ▸ hlt⟩
    | exit id => exact hK _ c2 a2 w2 σ2 hQ hr2 (hx.trans hx2) (hd2.trans hd)
    | goto l => exact hK _ c2 a2 w2 σ2 hQ hr2 (hx.trans hx2) (hd2.trans hd)
    | ret => exact hK _ c2 a2 w2 σ2 hQ hr2 (hx.trans hx2) (hd2.trans hd)
    | panic ch => exact hK _ c2 a2 w2 σ2 hQ hr2 (hx.trans hx2) (hd2.trans hd)
    | outgrown => exact hK _ c2 a2 w2 σ2 hQ hr2 (hx.trans hx2) (hd2.trans hd))
   obtain ⟨e, a1, w1, hq, harr⟩ := hround b (.inLoop x :: k) cs;cases e with
   | normal =>
    obtain ⟨s', σ2, c2, hI', hr2, hx2, hd2, hlt⟩ := hq;obtain ⟨e2, a2, w2, hq2, harr2⟩ := ih (μ s') hlt s' σ2 c2 a1 w1 rfl hI' hr2 hx2 hd2 b k cs;exact ⟨e2, a2, w2, hq2, .of_steps (Steps.trans harr (.one step_inLoop)) harr2⟩
   | exit id => exact ⟨_, a1, w1, hq, .pass (x := .inLoop x) rfl (fun _ _ => .inl (by simp)) harr⟩
   | goto l => exact ⟨_, a1, w1, hq, .pass (x := .inLoop x) rfl (fun _ _ => .inl (by simp)) harr⟩
   | ret => exact ⟨_, a1, w1, hq, .pass (x := .inLoop x) rfl (fun _ _ => .inl (by simp)) harr⟩
   | panic ch => exact ⟨_, a1, w1, hq, .pass (x := .inLoop x) rfl (fun _ _ => .inl (by simp)) harr⟩
   | outgrown => exact ⟨_, a1, w1, hq, .pass (x := .inLoop x) rfl (fun _ _ => .inl (by simp)) harr⟩
 intro b k cs;obtain ⟨e, a2, w2, hq, harr⟩ := key _ s σ c a w rfl h0 hrel (Ext.refl _ _) rfl b k cs;exact ⟨e, a2, w2, hq, .of_steps (.one step_loop) harr⟩
def grow (w : World) (o : Obj) : World := { w with heap := w.heap.push o }
theorem z00 (w : World) (o : Obj) (k : Nat) (h : k < w.heap.size) : (grow w o).heap[k]? = w.heap[k]? := by
 show (w.heap.push o)[k]? = _;rw [Array.getElem?_push, if_neg (by omega)]
theorem z2r (w : World) (o : Obj) : (grow w o).heap[w.heap.size]? = some o := by
 show (w.heap.push o)[w.heap.size]? = _;simp
theorem qy {w w' : World} (h : w'.heap[a.block]? = w.heap[a.block]?) : w'.cell? a = w.cell? a := by simp [World.cell?, h]
variable {e : TypeId}
theorem vU {k off : Nat} {vs : Array Value} {fr : Nat × Nat} (h : w.heap[k]? = some (.cells vs e fr)) :
  w.cell? ⟨k, off, none⟩ = vs[off]? := by simp [World.cell?, h]
theorem Ext.of_grow {w w' : World} (m' : List (Option Nat)) (hos : w'.os = w.os) (htape : w'.tape = w.tape) (hout : w'.output = w.output)
  (hsize : w.heap.size <= w'.heap.size) (hb : ∀ k, k < w.heap.size -> w'.heap[k]? = w.heap[k]?)
  (ids : ∀ b k : Nat, c.m[b]? = some (some k) -> m'[b]? = some (some k))
  (new : ∀ k : Nat, some k ∈ m' -> some k ∈ c.m \/ w.heap.size <= k) (g : ∀ i k j : Nat, c.T[i]? = some (some (k, j)) -> k < w.heap.size) :
  Ext w c w' { c with m := m' } where
 os := hos
 tape := htape
 output := hout
 size := hsize
 ids := ids
 new := new
 blocks := fun k hk _ _ => hb k hk
 cells := fun k hk _ off v _ hv => by rw [qy (hb k hk)]; exact hv
 toks := fun i k j h => .inr ⟨i, j, h, kH _⟩
 stay := fun i k j _ h => ⟨h, hb k (g i k j h)⟩
 tlen := kH _
 room := fun k vs e fr h => ⟨vs, fr, (hb k (kV.1 h).1).trans h, rfl⟩
 ok := rfl
 pn := rfl
theorem zax {w w' : World} {H : List AObj} {ts : List Bool} (g : Good w c H ts) (hos : w'.os = w.os) (htape : w'.tape = w.tape)
  (hout : w'.output = w.output) (hsize : w.heap.size <= w'.heap.size) (hb : ∀ k, k < w.heap.size -> w'.heap[k]? = w.heap[k]?) :
  Good w' c H ts /\ Ext w c w' c := by
 have x : Ext w c w' c := Ext.of_grow c.m hos htape hout hsize hb (fun _ _ h => h) (fun _ h => .inl h) (fun i k j h => g.tlt h)
 exact ⟨g.ext x (fun b k h => hb k (ObjC.lt g h)), x⟩
theorem zcy {H : List AObj} {ts : List Bool} (g : Good w c H ts) (o : Obj) : Good (grow w o) c H ts /\ Ext w c (grow w o) c :=
 zax g rfl rfl rfl (by simp [grow]) (fun k hk => z00 w o k hk)
theorem z1p {H : List AObj} {ts : List Bool} (g : Good w c H ts) (n : Nat) :
  Good { w with drawn := n } c H ts /\ Ext w c { w with drawn := n } c :=
 zax g rfl rfl rfl (kH _) (fun _ _ => rfl)
theorem Foot.new {w w' : World} {H : List AObj} {ts : List Bool} (g : Good w c H ts) (hs : w.heap.size < w'.heap.size) (k off n : Nat)
  (hk : k = w.heap.size) : Foot w' c ⟨k, off, none⟩ n := by
 subst hk;exact .inr ⟨rfl, hs, fun h => absurd (g.mlt h) (Nat.lt_irrefl _), fun i j h => absurd (g.tlt h) (Nat.lt_irrefl _), g.okn _ _ (kH _)⟩
theorem zpk {H : List AObj} {ts : List Bool} (g : Good w c H ts) {cs : List PV} {vs : Array Value} {fr : Nat × Nat}
  (hn : cs.length <= vs.size) (hf : nofz fr vs.size) (hlf : zd cs) (hv : VRs w c cs (fun i => vs[i]?)) :
  Good (grow w (.cells vs e fr)) { c with m := c.m ++ [some w.heap.size] } (H ++ [.row cs e]) ts /\
   Ext w c (grow w (.cells vs e fr)) { c with m := c.m ++ [some w.heap.size] } := by
 have hids : ∀ b k : Nat, c.m[b]? = some (some k) -> (c.m ++ [some w.heap.size])[b]? = some (some k) := fun b k h => by
  rw [kE (kC.1 h).1]; exact h
 have x : Ext w c (grow w (.cells vs e fr)) { c with m := c.m ++ [some w.heap.size] } := by
  refine Ext.of_grow _ rfl rfl rfl (by simp [grow]) (fun k hk => z00 w _ k hk) hids (fun k h => ?_) (fun i k j h => g.tlt h)
  rcases k9.1 h with h | h
  ·exact .inl h
  ·simp at h; exact .inr (Nat.le_of_eq h.symm)
 have back : ∀ b k : Nat, (c.m ++ [some w.heap.size])[b]? = some (some k) -> c.m[b]? = some (some k) \/ (b = c.m.length /\ k = w.heap.size) := fun b k h => by
  by_cases hb : b < c.m.length
  ·rw [kE hb] at h; exact .inl h
  ·rw [kF (Nat.le_of_not_lt hb)] at h;have : b - c.m.length = 0 := by
    rcases Nat.eq_zero_or_pos (b - c.m.length) with e | e
    ·exact e
    ·rw [List.getElem?_eq_none (by simp; omega)] at h; cases h
   rw [this] at h; simp at h;exact .inr ⟨by omega, h.symm⟩
 refine ⟨⟨by simp [g.len], ?_, ?_, g.tl, g.tal, g.tdead, ?_, g.tinj, fun k e h => g.okn k e (kG x.size h), g.okm, g.okt, fun b k hb hk e => ?_, g.gl.ext x⟩, x⟩
 ·intro i j k hi hj;rcases back i k hi with hi | ⟨ei, ek⟩ <;> rcases back j k hj with hj | ⟨ej, ek'⟩
  ·exact g.inj i j k hi hj
  ·have := ObjC.lt g hi; omega
  ·have := ObjC.lt g hj; omega
  ·omega
 ·intro b o h
  by_cases hb : b < H.length
  ·rw [kE hb] at h;refine (g.obj b o h).pass x (fun k h1 => ⟨x.ids _ _ h1, z00 w _ k (ObjC.lt g h1)⟩) fun ho => ?_
   show (c.m ++ [some w.heap.size])[b]? = some none;rw [kE (by rw [g.len]; exact hb)]; exact ho
  ·rw [kF (Nat.le_of_not_lt hb)] at h;have hb0 : b - H.length = 0 := by
    rcases Nat.eq_zero_or_pos (b - H.length) with e | e
    ·exact e
    ·rw [List.getElem?_eq_none (by simp; omega)] at h; cases h
   rw [hb0] at h;simp at h;subst h;refine .inr ⟨w.heap.size, vs, ?_, ⟨fr, z2r w _, hf⟩, hn, hlf, VRs.ext x cs (fun _ _ _ e => e) hv⟩
   show (c.m ++ [some w.heap.size])[b]? = _;rw [kF (by rw [g.len]; omega), g.len, hb0]; rfl
 ·intro i k j h;obtain ⟨h1, vs', e', fr', h2, h3⟩ := g.tok i k j h;refine ⟨fun hm => ?_, vs', e', fr', (z00 w _ k (g.tlt h)).trans h2, h3⟩
  rcases k9.1 hm with hm | hm
  ·exact h1 hm
  ·simp at hm; have := g.tlt h; omega
 ·rcases back b k hk with hk | ⟨_, rfl⟩
  ·exact g.oko b k hb hk e
  ·exact g.okn _ _ (kH _)
theorem zd6 (w : World) (k off : Nat) (v : Value) {vs : Array Value} {fr : Nat × Nat} (h : w.heap[k]? = some (.cells vs e fr)) :
  (w.setCell ⟨k, off, none⟩ v).heap[k]? = some (.cells (vs.setIfInBounds off v) e fr) := by
 simp [World.setCell, Array.getElem?_modify, h]
theorem z1a (w : World) (k off k' : Nat) (v : Value) (h : k' ≠ k) : (w.setCell ⟨k, off, none⟩ v).heap[k']? = w.heap[k']? := by
 simp only [World.setCell, Array.getElem?_modify];rw [if_neg (by omega)]
theorem zlo (w : World) (a : Addr) (v : Value) : (w.setCell a v).heap.size = w.heap.size := by simp [World.setCell]
theorem zo {w : World} {c : Cx} : ∀ {cs : List PV} {f : Nat -> Option Value} {i : Nat} {p : PV}, VRs w c cs f -> cs[i]? = some p -> ∃ v, f i = some v /\ VR w c p v
 | [], _, _, _, _, h => by simp at h
 | q :: cs, f, 0, p, hv, h => by
  simp only [VRs] at hv;simp at h; subst h;exact hv.1
 | q :: cs, f, i + 1, p, hv, h => by
  simp only [VRs] at hv;exact zo (cs := cs) (f := fun i => f (i + 1)) hv.2 (by simpa using h)
theorem zU {w : World} {c : Cx} : ∀ {cs : List PV} {f : Nat -> Option Value}, (∀ i p, cs[i]? = some p -> ∃ v, f i = some v /\ VR w c p v) -> VRs w c cs f
 | [], _, _ => by simp only [VRs]
 | q :: cs, f, h => by
  simp only [VRs];exact ⟨h 0 q rfl, zU fun i p hp => h (i + 1) p (by simpa using hp)⟩
theorem zuj {H : List AObj} {ts : List Bool} (g : Good w c H ts) {b off : Nat} {cs : List PV} (hb : H[b]? = some (.row cs e))
  {k : Nat} (hk : c.m[b]? = some (some k)) {p : PV} {v : Value} (hp : leaf p = true) (hv : VR w c p v) :
  Good (w.setCell ⟨k, off, none⟩ v) c (H.set b (.row (cs.set off p) e)) ts /\ Ext w c (w.setCell ⟨k, off, none⟩ v) c := by
 obtain ⟨vs, fr, h2, hf, h3, hl, h4⟩ := (g.obj b _ hb).row hk;have hmem : some k ∈ c.m := List.mem_iff_getElem?.2 ⟨b, hk⟩;have x : Ext w c (w.setCell ⟨k, off, none⟩ v) c :=
  {os := rfl, tape := rfl, output := rfl, size := by rw [zlo]; exact kH _
   ids := fun _ _ h => h, new := fun _ h => .inl h
   blocks := fun k' _ hm _ => z1a w k off k' v (fun e => hm (e ▸ hmem))
   cells := fun k' _ hm off' v' _ hv' => by rw [qy (z1a w k off k' v (fun e => hm (e ▸ hmem)))]; exact hv'
   toks := fun i _ j h => .inr ⟨i, j, h, kH _⟩
   stay := fun i k' j _ h => ⟨h, z1a w k off k' v (fun e => (g.tok i k' j h).1 (e ▸ hmem))⟩
   room := fun k' vs' e' fr' h => by
    by_cases hkk : k' = k
    ·subst hkk;rw [h2] at h; cases h;exact ⟨_, _, zd6 w k' off v h2, by simp⟩
    ·exact ⟨vs', fr', (z1a w k off k' v hkk).trans h, rfl⟩
   tlen := kH _, ok := rfl, pn := rfl }
 have hblt : b < H.length := (kC.1 hb).1;refine ⟨⟨by simp [g.len], g.inj, ?_, g.tl, g.tal, g.tdead, ?_, g.tinj, fun k e h => g.okn k e (kG x.size h), g.okm, g.okt, g.oko, g.gl.ext x⟩, x⟩
 ·intro b' o h
  by_cases hbb : b = b'
  ·subst hbb;rw [kP hblt] at h;cases h;refine .inr ⟨k, _, hk, ⟨fr, zd6 w k off v h2, by simpa using hf⟩, by simpa using h3, fun q hq => (List.mem_or_eq_of_mem_set hq).elim (hl q) (fun e => e ▸ hp), zU fun i q hq => ?_⟩
   by_cases hi : off = i
   ·subst hi;have hlt : off < cs.length := by
     have := (kC.1 hq).1; simpa using this
    rw [kP hlt] at hq;cases hq;exact ⟨v, by rw [kK (by omega)], hv.ext x⟩
   ·rw [k0 hi] at hq;obtain ⟨u, hu, hr⟩ := zo h4 hq;exact ⟨u, by rw [kN hi]; exact hu, hr.ext x⟩
  ·rw [k0 hbb] at h;have hne : ∀ k', c.m[b']? = some (some k') -> k' ≠ k := fun k' h' e => hbb (g.inj b b' k hk (e ▸ h'))
   exact (g.obj b' o h).pass x (fun k' h' => ⟨h', z1a w k off k' v (hne k' h')⟩) id
 ·intro i k' j h;obtain ⟨h1', vs', e', fr', h2', h3'⟩ := g.tok i k' j h;exact ⟨h1', vs', e', fr', (z1a w k off k' v (fun e => h1' (e ▸ hmem))).trans h2', h3'⟩
def splice (cs : List PV) (off : Nat) (ps : List PV) : List PV := cs.take off ++ ps ++ cs.drop (off + ps.length)
theorem z6g (cs : List PV) (off : Nat) : splice cs off [] = cs := by simp [splice]
theorem zmp (cs : List PV) (off : Nat) (p : PV) (ps : List PV) (h : off + (ps.length + 1) <= cs.length) :
  splice (cs.set off p) (off + 1) ps = splice cs off (p :: ps) := by
 unfold splice;have h1 : (cs.set off p).take (off + 1) = cs.take off ++ [p] := by
  rw [List.take_succ_eq_append_getElem (by simp; omega)]
  rw [List.take_set_of_le (kH _)];simp
 have h2 : (cs.set off p).drop (off + 1 + ps.length) = cs.drop (off + (p :: ps).length) := by
  rw [List.drop_set_of_lt (by omega)]
  simp [Nat.add_comm, Nat.add_left_comm]
 rw [h1, h2];simp
theorem qB (cs : List PV) (off : Nat) (ps : List PV) (h : off + ps.length <= cs.length) : (splice cs off ps).length = cs.length := by
 simp [splice]; omega
theorem xz (k off i : Nat) : Addr.add ⟨k, off, none⟩ i = ⟨k, off + i, none⟩ := by
 unfold Addr.add;split
 ·rename_i h; subst h; rfl
 ·rfl
theorem zan {p : PV} (h : leaf p = true) (hv : VR w c p v) : v.oneCell' = true := by
 cases p <;> simp only [leaf] at h <;> first | (cases h; done) | skip
 ·simp only [VR] at hv; obtain ⟨rfl, hv⟩ := hv;cases v <;> first | rfl | (simp only [vl] at hv; cases hv)
 ·simp only [VR] at hv; obtain ⟨k, _, rfl⟩ := hv; rfl
 ·simp only [VR] at hv; obtain ⟨k, rfl, _⟩ := hv; rfl
 ·simp only [VR] at hv;rcases hv with ⟨⟨_, rfl⟩, _⟩ | ⟨k, cap, off', _, rfl, _⟩ <;> rfl
 ·simp only [VR] at hv;rcases hv with ⟨rfl, _⟩ | ⟨a, cap, rfl, _⟩ <;> rfl
 ·simp only [VR] at hv; obtain ⟨k, rfl, _⟩ := hv; rfl
 ·simp only [VR] at hv; obtain ⟨k, rfl, _⟩ := hv; rfl
 ·simp only [VR] at hv; obtain ⟨k, _, rfl⟩ := hv; rfl
 ·simp only [VR] at hv; exact hv
theorem vo {P : Program} : ∀ (us : List Value) (ps : List PV) {w : World} {c : Cx} {H : List AObj} {ts : List Bool} {b off i k : Nat} {cs : List PV} {e : TypeId},
  Good w c H ts -> H[b]? = some (.row cs e) -> c.m[b]? = some (some k) -> us.length = ps.length -> off + i + ps.length <= cs.length ->
  zd ps -> VRs w c ps (fun i => us[i]?) ->
  ∃ w', (storeCells ⟨k, off, none⟩ us i).run P w = .ok () w' /\ Good w' c (H.set b (.row (splice cs (off + i) ps) e)) ts /\ Ext w c w' c
 | [], [], w, c, H, ts, b, off, i, k, cs, e, g, hb, hk, hl, hlen, ho, hv => by
  refine ⟨w, rfl, ?_, Ext.refl _ _⟩;rw [z6g];have : H.set b (.row cs e) = H := by
   apply List.ext_getElem?;intro j
   by_cases hj : b = j
   ·subst hj; rw [kP (kC.1 hb).1, hb]
   ·rw [k0 hj]
  rw [this]; exact g
 | u :: us, p :: ps, w, c, H, ts, b, off, i, k, cs, e, g, hb, hk, hl, hlen, ho, hv => by
  simp only [VRs] at hv;obtain ⟨⟨u', hu', hup⟩, hvs⟩ := hv;simp at hu'; subst hu';simp at hl hlen;obtain ⟨vs, fr, h2, hf, h3, hl', h4⟩ := (g.obj b _ hb).row hk;obtain ⟨g1, x1⟩ := zuj g (off := off + i) hb hk (ho p (by simp)) hup
  have hlt : off + i < vs.size := by omega
  have hcell : w.cell? ⟨k, off + i, none⟩ = some vs[off + i] := by rw [vU h2]; simp [hlt]
  have hfr : w.frozen? ⟨k, off + i, none⟩ = false := by
   simp only [World.frozen?, h2];have := hf.no (off + i) hlt;simpa using this
  obtain ⟨w', hw', g', x'⟩ := vo us ps (w := w.setCell ⟨k, off + i, none⟩ u) (i := i + 1) (off := off) g1
   (by rw [kP (kC.1 hb).1]) hk hl (by simp; omega) (fun q hq => ho q (by simp [hq]))
   (VRs.ext x1 ps (fun _ _ _ e => by simpa using e) hvs)
  refine ⟨w', ?_, ?_, x1.trans x'⟩
  ·have hone := zan (ho p (by simp)) hup
   unfold storeCells;rw [xz, kB];have hst : (store ⟨k, off + i, none⟩ u : Sem Unit).run P w = .ok () (w.setCell ⟨k, off + i, none⟩ u) := by
    unfold store;cases u <;> simp only [Value.oneCell'] at hone <;> first | (cases hone; done) | (simp only [Sem.run, hcell, hfr]; rfl)
   rw [hst];exact hw'
  ·rw [List.set_set, <- Nat.add_assoc, zmp _ _ _ _ (by omega)] at g'
   exact g'
 | [], _ :: _, _, _, _, _, _, _, _, _, _, _, _, _, _, hl, _, _, _ => by simp at hl
 | _ :: _, [], _, _, _, _, _, _, _, _, _, _, _, _, _, hl, _, _, _ => by simp at hl
theorem je {a : Act} {w w' : World} {K : Act -> World -> Prop} {Q : Exit -> Act -> World -> Prop}
  (h : (execOp a.eval o).run P w = .ok (.value v) w') (hK : K (a.put o.dst v) w') : o.wp P a w K Q := by
 unfold Oper.wp; rw [h]; exact hK
theorem zte {a : Act} {w w' : World} {K : Act -> World -> Prop} {Q : Exit -> Act -> World -> Prop}
  (h : (execOp a.eval o).run P w = .ok .skip w') (hK : K (a.put o.dst undef) w') : o.wp P a w K Q := by
 unfold Oper.wp; rw [h]; exact hK
variable {q : PV}
theorem zP
  (h : ∀ w c (a : Act), RelC w c σ a -> ∃ v, (execOp a.eval o).run P w = .ok (.value v) w /\ VR w c q v) : QStep P o σ q := by
 intro c a w K Q hr hK;obtain ⟨v, h1, h2⟩ := h w c a hr;exact je h1 (hK v w h2 hr.1 (Ext.refl _ _))
theorem qP {v u : Value} : VR w c (.val v) u ↔ u = v /\ vl v = true := by simp only [VR]
variable {x : Operand}
theorem zm {a : Act} (h : SlotsR w c σ a.tmps) (e : σ.eval x = .val v) : a.eval x = v := by
 have := h.eval x;rw [e, qP] at this;exact this.1
theorem zv8 (ho : o.op = .move x) (hx : σ.eval x = q) : QStep P o σ q :=
 zP fun w c a hr => ⟨a.eval x, by simp [execOp, ho], hx ▸ hr.2.eval x⟩
theorem zss (ho : o.op = .assign x) (hx : σ.eval x = q) : QStep P o σ q :=
 zP fun w c a hr => ⟨a.eval x, by simp [execOp, ho], hx ▸ hr.2.eval x⟩
theorem zge {x y z : Operand} {b : Bool} (ho : o.op = .pick x y z) (hx : σ.eval x = .val (.bool b))
  (hq : σ.eval (if b then y else z) = q) : QStep P o σ q :=
 zP fun w c a hr => ⟨a.eval (if b then y else z), by
  have := zm hr.2 hx;cases b <;> simp [execOp, ho, this, asBool], hq ▸ hr.2.eval _⟩
def z55 (op : BinOp) (k : IntKind) (a b : Int) : Option Value :=
 match op with
 | .add => some (.int k (k.wrap (a + b)))
 | .sub => some (.int k (k.wrap (a - b)))
 | .mul => some (.int k (k.wrap (a * b)))
 | .eql => some (.bool (a == b))
 | .neq => some (.bool (a != b))
 | .lss => some (.bool (decide (a < b)))
 | .leq => some (.bool (decide (a <= b)))
 | .gtr => some (.bool (decide (a > b)))
 | .geq => some (.bool (decide (a ≥ b)))
 | .and => some (.int k (k.wrap (BitVec.ofInt k.bits a &&& BitVec.ofInt k.bits b).toNat))
 | .or => some (.int k (k.wrap (BitVec.ofInt k.bits a ||| BitVec.ofInt k.bits b).toNat))
 | .xor => some (.int k (k.wrap (BitVec.ofInt k.bits a ^^^ BitVec.ofInt k.bits b).toNat))
 | .andNot => some (.int k (k.wrap (BitVec.ofInt k.bits a &&& ~~~BitVec.ofInt k.bits b).toNat))
 | _ => none
variable {t : TypeId}
theorem xw {op : BinOp} {x y : Operand} {a b : Value} (ha : ∀ cs, a ≠ .agg cs) (hn : a ≠ .nilIface) :
  (eqGuard op t x y a b).run P w = .ok () w := by
 unfold eqGuard;cases a with
 | agg cs => exact absurd rfl (ha cs)
 | nilIface => exact absurd rfl hn
 | _ => cases op <;> rfl
variable {k : IntKind}
theorem zps {op : BinOp} {a b : Int} (h : z55 op k a b = some v) : vl v = true := by
 cases op <;> simp [z55] at h <;> subst h <;> rfl
theorem zts {op : BinOp} {t yt : TypeId} {x y : Operand} {a b : Int} (ho : o.op = .binOp op t x y yt)
  (hx : σ.eval x = .val (.int k a)) (hy : σ.eval y = .val (.int k b)) (hv : z55 op k a b = some v) : QStep P o σ (.val v) :=
 zP fun w c act hr => ⟨v, by
  have e1 := zm hr.2 hx;have e2 := zm hr.2 hy;simp only [execOp, ho, e1, e2, kB, xw (P := P) (w := w) (op := op) (t := t) (x := x) (y := y) (a := .int k a) (b := .int k b) (by simp) (by simp), kA]
  cases op <;> simp [z55] at hv <;> subst hv <;> simp [binOp, Op.intArith, Op.intCmp, Op.intBits], yH (zps hv)⟩
theorem zvp {t yt : TypeId} {x y : Operand} {a b : Int} (ho : o.op = .binOp .quo t x y yt)
  (hx : σ.eval x = .val (.int k a)) (hy : σ.eval y = .val (.int k b)) (hb : b ≠ 0) : QStep P o σ (.val (.int k (k.wrap (a.tdiv b)))) :=
 zP fun w c act hr => ⟨_, by
  have e1 := zm hr.2 hx;have e2 := zm hr.2 hy;simp only [execOp, ho, e1, e2, kB, xw (P := P) (w := w) (op := .quo) (t := t) (x := x) (y := y) (a := .int k a) (b := .int k b) (by simp) (by simp), kA]
  simp [binOp, Op.intDiv, hb], yH rfl⟩
theorem zvq {t yt : TypeId} {x y : Operand} {a b : Int} (ho : o.op = .binOp .rem t x y yt)
  (hx : σ.eval x = .val (.int k a)) (hy : σ.eval y = .val (.int k b)) (hb : b ≠ 0) : QStep P o σ (.val (.int k (a.tmod b))) :=
 zP fun w c act hr => ⟨_, by
  have e1 := zm hr.2 hx;have e2 := zm hr.2 hy;simp only [execOp, ho, e1, e2, kB, xw (P := P) (w := w) (op := .rem) (t := t) (x := x) (y := y) (a := .int k a) (b := .int k b) (by simp) (by simp), kA]
  simp [binOp, Op.intDiv, hb], yH rfl⟩
theorem zvr {t yt : TypeId} {x y : Operand} {k yk : IntKind} {a b : Int} (ho : o.op = .binOp .shl t x y yt)
  (hx : σ.eval x = .val (.int k a)) (hy : σ.eval y = .val (.int yk b)) (hb : ¬ b < 0) : QStep P o σ (.val (.int k (k.wrap (a * 2 ^ min b.toNat k.bits)))) :=
 zP fun w c act hr => ⟨_, by
  have e1 := zm hr.2 hx;have e2 := zm hr.2 hy;simp only [execOp, ho, e1, e2, kB, xw (P := P) (w := w) (op := .shl) (t := t) (x := x) (y := y) (a := .int k a) (b := .int yk b) (by simp) (by simp), kA]
  simp [binOp, Op.shift, hb], yH rfl⟩
theorem zvs {t yt : TypeId} {x y : Operand} {k yk : IntKind} {a b : Int} (ho : o.op = .binOp .shr t x y yt)
  (hx : σ.eval x = .val (.int k a)) (hy : σ.eval y = .val (.int yk b)) (hb : ¬ b < 0) : QStep P o σ (.val (.int k (a.fdiv (2 ^ min b.toNat k.bits)))) :=
 zP fun w c act hr => ⟨_, by
  have e1 := zm hr.2 hx;have e2 := zm hr.2 hy;simp only [execOp, ho, e1, e2, kB, xw (P := P) (w := w) (op := .shr) (t := t) (x := x) (y := y) (a := .int k a) (b := .int yk b) (by simp) (by simp), kA]
  simp [binOp, Op.shift, hb], yH rfl⟩
def z0m (op : BinOp) (x y : ByteArray) : Option Value :=
 match op with
 | .eql => some (.bool (x.toList == y.toList))
 | .neq => some (.bool (!(x.toList == y.toList)))
 | .lss => some (.bool (Op.bytesLess x.toList y.toList))
 | .leq => some (.bool (Op.bytesLess x.toList y.toList || x.toList == y.toList))
 | .gtr => some (.bool (!(Op.bytesLess x.toList y.toList || x.toList == y.toList)))
 | .geq => some (.bool (!Op.bytesLess x.toList y.toList))
 | _ => none
theorem zpw {op : BinOp} {a b : ByteArray} (h : z0m op a b = some v) : vl v = true := by
 cases op <;> simp [z0m] at h <;> subst h <;> rfl
theorem zvt {op : BinOp} {t yt : TypeId} {x y : Operand} {a b : ByteArray} (ho : o.op = .binOp op t x y yt)
  (hx : σ.eval x = .val (.string a)) (hy : σ.eval y = .val (.string b)) (hv : z0m op a b = some v) : QStep P o σ (.val v) :=
 zP fun w c act hr => ⟨v, by
  have e1 := zm hr.2 hx;have e2 := zm hr.2 hy;simp only [execOp, ho, e1, e2, kB, xw (P := P) (w := w) (op := op) (t := t) (x := x) (y := y) (a := .string a) (b := .string b) (by simp) (by simp), kA]
  cases op <;> simp [z0m] at hv <;> subst hv <;> simp [binOp, Op.stringOp], yH (zpw hv)⟩
theorem zvi {t yt : TypeId} {x y : Operand} {a b : ByteArray} (ho : o.op = .binOp .add t x y yt)
  (hx : σ.eval x = .val (.string a)) (hy : σ.eval y = .val (.string b)) (hs : a.size + b.size <= 9223372036854775807) : QStep P o σ (.val (.string (a ++ b))) :=
 zP fun w c act hr => ⟨_, by
  have e1 := zm hr.2 hx;have e2 := zm hr.2 hy;have hm : ¬ (((a.size + b.size : Nat) : Int) > IntKind.i64.max) := by
   have : IntKind.i64.max = 9223372036854775807 := by decide
   omega
  simp only [execOp, ho, e1, e2, kB, xw (P := P) (w := w) (op := .add) (t := t) (x := x) (y := y) (a := .string a) (b := .string b) (by simp) (by simp), kA]
  simp only [binOp, Op.stringOp];rw [if_neg hm]; rfl, yH rfl⟩
theorem run_underlying {d : TypeDesc} (h : P.underlying t = some d) : (underlying t).run P w = .ok d w := by
 simp [underlying, h]
theorem zc2 (n : Nat) (a b : Bool) (ht : P.underlying t = some .bool) :
  (Op.equalIn (n + 1) t (.bool a) (.bool b)).run P w = .ok (a == b) w := by
 unfold Op.equalIn;rw [kB, run_underlying ht];rfl
theorem zii {w w' : World} {a b : Value} {r : Bool} (h : (Op.equalIn (9999 + 1) t a b).run P w = .ok r w') :
  (Op.equal t a b).run P w = .ok r w' := h
theorem zpt {a b : Bool} : binOp .eql t (.bool a) (.bool b) = (do pure (.bool (<- Op.equal t (.bool a) (.bool b)))) := rfl
theorem zpu {a b : Bool} : binOp .neq t (.bool a) (.bool b) = (do pure (.bool (!(<- Op.equal t (.bool a) (.bool b))))) := rfl
theorem zst {t yt : TypeId} {x y : Operand} {a b : Bool} (ho : o.op = .binOp .eql t x y yt) (ht : P.underlying t = some .bool)
  (hx : σ.eval x = .val (.bool a)) (hy : σ.eval y = .val (.bool b)) : QStep P o σ (.val (.bool (a == b))) :=
 zP fun w c act hr => ⟨_, by
  have e1 := zm hr.2 hx;have e2 := zm hr.2 hy;simp only [execOp, ho, e1, e2, kB, xw (P := P) (w := w) (op := .eql) (t := t) (x := x) (y := y) (a := .bool a) (b := .bool b) (by simp) (by simp), kA]
  rw [zpt, kB, zii (zc2 9999 a b ht)]; rfl, yH rfl⟩
theorem zsw {t yt : TypeId} {x y : Operand} {a b : Bool} (ho : o.op = .binOp .neq t x y yt) (ht : P.underlying t = some .bool)
  (hx : σ.eval x = .val (.bool a)) (hy : σ.eval y = .val (.bool b)) : QStep P o σ (.val (.bool (!(a == b)))) :=
 zP fun w c act hr => ⟨_, by
  have e1 := zm hr.2 hx;have e2 := zm hr.2 hy;simp only [execOp, ho, e1, e2, kB, xw (P := P) (w := w) (op := .neq) (t := t) (x := x) (y := y) (a := .bool a) (b := .bool b) (by simp) (by simp), kA]
  rw [zpu, kB, zii (zc2 9999 a b ht)]; rfl, yH rfl⟩
theorem zvo {a : Bool} (ho : o.op = .unOp .not t x)
  (hx : σ.eval x = .val (.bool a)) : QStep P o σ (.val (.bool (!a))) :=
 zP fun w c act hr => ⟨_, by
  have e1 := zm hr.2 hx;simp [execOp, ho, e1, Op.unary], yH rfl⟩
theorem zvn {a : Int} (ho : o.op = .unOp .neg t x)
  (hx : σ.eval x = .val (.int k a)) : QStep P o σ (.val (.int k (k.wrap (0 - a)))) :=
 zP fun w c act hr => ⟨_, by
  have e1 := zm hr.2 hx;simp [execOp, ho, e1, Op.unary, Op.intArith], yH rfl⟩
theorem zv5 {s t : TypeId} {k k' : IntKind} {a : Int} {d : TypeDesc} (ho : o.op = .convert s t x)
  (hs : P.underlying s = some d) (ht : P.underlying t = some (.int k')) (hx : σ.eval x = .val (.int k a)) : QStep P o σ (.val (.int k' (k'.wrap a))) :=
 zP fun w c act hr => ⟨_, by
  have e1 := zm hr.2 hx;simp only [execOp, ho, e1, convert, kB, run_underlying hs, run_underlying ht, kA];cases d <;> simp [Conv.intToInt], yH rfl⟩
theorem zqt {s t : TypeId} {a : ByteArray} (ho : o.op = .convert s t x)
  (hs : P.underlying s = some .string) (ht : P.underlying t = some .string) (hx : σ.eval x = .val (.string a)) : QStep P o σ (.val (.string a)) :=
 zP fun w c act hr => ⟨_, by
  have e1 := zm hr.2 hx;simp only [execOp, ho, e1, convert, kB, run_underlying hs, run_underlying ht, kA];simp, yH rfl⟩
def xM (P : Program) (t : TypeId) : Option Bool :=
 match P.underlying t with
 | some (.struct _) | some (.array _ _) => some true
 | some _ => some false
 | none => none
def ye (P : Program) (t : TypeId) : Option Nat := (P.info? t).map (·.size)
theorem z3e {b : Bool} (h : xM P t = some b) : (isAgg t).run P w = .ok b w := by
 unfold xM at h;unfold isAgg;cases hd : P.underlying t with
 | none => rw [hd] at h; cases h
 | some d =>
  rw [hd] at h;simp only [kB, run_underlying hd, kA];cases d <;> simp at h <;> subst h <;> rfl
theorem run_sizeOf (h : ye P t = some n) : (sizeOf t).run P w = .ok n w := by
 unfold ye at h;unfold sizeOf typeInfo;cases hi : P.info? t with
 | none => rw [hi] at h; cases h
 | some i => rw [hi] at h; simp at h; subst h; simp [hi]
theorem zgg (cs : List PV) (h : VRs w c cs (fun i => w.cell? (a.add i))) :
  ∃ vs : Array Value, (loadCells a cs.length).run P w = .ok vs w /\ vs.size = cs.length /\ VRs w c cs (fun i => vs[i]?) := by
 have hsome : ∀ i, i < cs.length -> ∃ v, w.cell? (a.add i) = some v := fun i hi => by
  obtain ⟨v, h1, _⟩ := zo h (List.getElem?_eq_getElem hi);exact ⟨v, h1⟩
 refine ⟨((List.range cs.length).map (fun i => (w.cell? (a.add i)).getD undef)).toArray, run_loadCells w a cs.length _ (fun i hi => ?_), by simp, zU fun i p hp => ?_⟩
 ·obtain ⟨v, h1⟩ := hsome i hi; simp [h1]
 ·have hi := (kC.1 hp).1;obtain ⟨v, h1, h2⟩ := zo h hp;exact ⟨v, by simp [hi, h1], h2⟩
def za5 (P : Program) (H : List AObj) (t : TypeId) (p q : PV) : Prop :=
 ∀ w c ts v, Good w c H ts -> VR w c p v -> ∃ a u, v = .pointer (some a) /\ (loadVar t a).run P w = .ok u w /\ VR w c q u
theorem zqb {H : List AObj} {b off n : Nat} {cs qs : List PV} (ha : xM P t = some true) (hn : ye P t = some n)
  (hb : H[b]? = some (.row cs e)) (hq : (cs.drop off).take n = qs) (hlen : qs.length = n) : za5 P H t (.ptr b off) (.agg qs) := by
 intro w c ts v g hv;simp only [VR] at hv;obtain ⟨k, hk, rfl⟩ := hv;obtain ⟨vs, fr, h2, hf, h3, hl, h4⟩ := (g.obj b _ hb).row hk;have hcells : VRs w c qs (fun i => w.cell? (Addr.add ⟨k, off, none⟩ i)) := zU fun i p hp => by
  rw [xz, vU h2];rw [<- hq] at hp;have : cs[off + i]? = some p := by
   rw [kO] at hp;split at hp
   ·rw [kY] at hp; exact hp
   ·cases hp
  exact zo h4 this
 obtain ⟨us, hrun, hs, hr⟩ := zgg (P := P) qs hcells;refine ⟨_, .agg us, rfl, ?_, ?_⟩
 ·unfold loadVar;simp only [kB, z3e ha, kA, if_true, run_sizeOf hn];rw [<- hlen, hrun]; rfl
 ·simp only [VR]; exact ⟨us, rfl, hs, fun q hq' => hl q (kS (kT (hq ▸ hq'))), hr⟩
theorem zoe {H : List AObj} {b off : Nat} {cs : List PV} (ha : xM P t = some false)
  (hb : H[b]? = some (.row cs e)) (hq : cs[off]? = some q) : za5 P H t (.ptr b off) q := by
 intro w c ts v g hv;simp only [VR] at hv;obtain ⟨k, hk, rfl⟩ := hv;obtain ⟨vs, fr, h2, hf, h3, hl, h4⟩ := (g.obj b _ hb).row hk;obtain ⟨u, hu, hr⟩ := zo h4 hq;refine ⟨_, u, rfl, ?_, hr⟩;unfold loadVar;simp only [kB, z3e ha, kA, kL, if_false, run_load, vU h2, hu]
theorem z77 {cs : List PV} (hf : Foot w c a cs.length) (h : VRs w c cs (fun i => w.cell? ⟨a.block, a.off + i, none⟩)) :
  VRs w c cs (fun i => w.cell? (a.add i)) := by
 refine zU fun i p hp => ?_
 obtain ⟨v, h1, h2⟩ := zo h hp;have hi := (kC.1 hp).1;rcases hf with hf | ⟨hs, _⟩
 ·omega
 ·have : a.add i = ⟨a.block, a.off + i, none⟩ := by
   cases a with
   | mk b o s => simp only at hs; subst hs; exact xz b o i
  rw [this]; exact ⟨v, h1, h2⟩
theorem zse {H : List AObj} {cs qs : List PV} (ha : xM P t = some true) (hn : ye P t = some n)
  (hq : cs.take n = qs) (hlen : qs.length = n) : za5 P H t (.fz cs) (.agg qs) := by
 intro w c ts v g hv;simp only [VR] at hv;obtain ⟨a, rfl, hf, hl, hc⟩ := hv;have hcells : VRs w c qs (fun i => w.cell? (a.add i)) := zU fun i p hp => by
  have hc' := z77 hf hc;rw [<- hq, kO] at hp;split at hp
  ·exact zo hc' hp
  ·cases hp
 obtain ⟨us, hrun, hs, hr⟩ := zgg (P := P) qs hcells;refine ⟨_, .agg us, rfl, ?_, ?_⟩
 ·unfold loadVar;simp only [kB, z3e ha, kA, if_true, run_sizeOf hn];rw [<- hlen, hrun]; rfl
 ·simp only [VR]; exact ⟨us, rfl, hs, fun q hq' => hl q (kT (hq ▸ hq')), hr⟩
theorem zky {H : List AObj} {cs : List PV} (ha : xM P t = some false)
  (hq : cs[0]? = some q) : za5 P H t (.fz cs) q := by
 intro w c ts v g hv;simp only [VR] at hv;obtain ⟨a, rfl, hf, hl, hc⟩ := hv;obtain ⟨u, hu, hr⟩ := zo (z77 hf hc) hq;refine ⟨_, u, rfl, ?_, hr⟩;have hu' : w.cell? a = some u := hu;unfold loadVar;simp only [kB, z3e ha, kA, kL, if_false, run_load, hu']
theorem zv7 {p q : PV} (ho : o.op = .load t x) (hx : σ.eval x = p) (h : za5 P σ.H t p q) : QStep P o σ q :=
 zP fun w c act hr => by
  obtain ⟨a, u, h1, h2, h3⟩ := h w c _ _ hr.1 (hx ▸ hr.2.eval x);exact ⟨u, by simp [execOp, ho, Instr.loadAt, h1, Instr.sureAddr, h2], h3⟩
theorem zhr {f : Field} (h : ye P f.type = some n) (hn : n ≠ 0) :
  (fieldPlace a f).run P w = .ok (a.add f.offset) w := by
 unfold fieldPlace;simp only [kB, run_sizeOf h, kA, if_neg hn];rfl
def zc9 (P : Program) (t : TypeId) (i : Nat) : Option Nat :=
 match P.underlying t with
 | some (.struct fs) => match fs[i]? with
  | some f => match ye P f.type with
   | some (_ + 1) => some f.offset
   | _ => none
  | none => none
 | _ => none
theorem zed {i off : Nat} (h : zc9 P t i = some off) :
  (Instr.fieldAt t (.pointer (some a)) i).run P w = .ok (.pointer (some (a.add off))) w := by
 unfold zc9 at h;split at h
 ·rename_i fs hu;split at h
  ·rename_i f hf;split at h
   ·rename_i n hs;cases h;simp only [Instr.fieldAt, kB, run_underlying hu, kA, hf, Instr.sureAddr, kI, zhr hs (Nat.succ_ne_zero n)]
   ·cases h
  ·cases h
 ·cases h
theorem zuc {i b off fo : Nat} (ho : o.op = .fieldAddr t x i) (hf : zc9 P t i = some fo)
  (hx : σ.eval x = .ptr b off) : QStep P o σ (.ptr b (off + fo)) :=
 zP fun w c act hr => by
  have hv := hr.2.eval x;rw [hx] at hv;simp only [VR] at hv;obtain ⟨k, hk, e⟩ := hv;refine ⟨.pointer (some ⟨k, off + fo, none⟩), ?_, ?_⟩
  ·simp only [execOp, ho, e, kB, zed hf, kA, xz]; rfl
  ·simp only [VR]; exact ⟨k, hk, rfl⟩
theorem za7 {cs : List PV} {f : Nat -> Option Value} (h : VRs w c cs f) (n : Nat) : VRs w c (cs.take n) f :=
 zU fun i p hp => by
  rw [kO] at hp;split at hp
  ·exact zo h hp
  ·cases hp
theorem Foot.le {n m : Nat} {H : List AObj} {ts : List Bool} (g : Good w c H ts) (h : Foot w c a n)
  (d : Nat) (hd : d + m <= n) : Foot w c (a.add d) m := by
 rcases h with h | ⟨hs, hb, hm, ht, ho⟩
 ·exact .inl (by omega)
 ·have e : a.add d = ⟨a.block, a.off + d, none⟩ := by
   cases a with
   | mk b o s => simp only at hs; subst hs; exact xz b o d
  rw [e];exact .inr ⟨rfl, hb, hm, fun i k h => by have := ht i k h; show a.off + d + m <= k; omega, g.okm _ _ _ ho (by show a.off + d + m <= a.off + n; omega)⟩
variable {i : Int}
theorem z2g : (asIntOf (.int k i)).run P w = .ok (k, i) w := rfl
theorem z5w {t e : TypeId} {len cap sz : Nat} (ht : P.underlying t = some (.slice e))
  (hs : ye P e = some sz) (h0 : 0 <= i) (h1 : i < len) :
  (Instr.indexAt t (.slice (some a) len cap) (.int k i)).run P w = .ok (.pointer (some (a.add (i.toNat * sz)))) w := by
 unfold Instr.indexAt;simp only [kB, z2g, kA, run_underlying ht, kI];rw [if_pos ⟨h0, h1⟩];simp only [kB, run_sizeOf hs, kA, kI]
theorem z5v {t e : TypeId} {n sz : Nat} (ht : P.underlying t = some (.array n e))
  (hs : ye P e = some sz) (h0 : 0 <= i) (h1 : i < n) :
  (Instr.indexAt t (.pointer (some a)) (.int k i)).run P w = .ok (.pointer (some (a.add (i.toNat * sz)))) w := by
 unfold Instr.indexAt;simp only [kB, z2g, kA, run_underlying ht, kI, Instr.sureAddr];rw [if_pos ⟨h0, h1⟩];simp only [kB, run_sizeOf hs, kA, kI]
theorem z3f {H : List AObj} {ts : List Bool} (g : Good w c H ts) {cs : List PV} (hf : Foot w c a cs.length) (hl : zd cs)
  (hc : VRs w c cs (fun i => w.cell? ⟨a.block, a.off + i, none⟩)) (d : Nat) : VR w c (.fz (cs.drop d)) (.pointer (some (a.add d))) := by
 simp only [VR];refine ⟨a.add d, rfl, ?_, fun q hq => hl q (kS hq), ?_⟩
 ·by_cases hd : d <= cs.length
  ·exact hf.le g d (by simp; omega)
  ·exact .inl (by simp; omega)
 ·refine zU fun i p hp => ?_
  rw [kY] at hp;obtain ⟨v, h1, h2⟩ := zo (z77 hf hc) hp;have hlt := (kC.1 hp).1;rcases hf with hf | ⟨hs, _⟩
  ·omega
  ·have e : ∀ j, a.add j = ⟨a.block, a.off + j, none⟩ := fun j => by
    cases a with
    | mk b o s => simp only at hs; subst hs; exact xz b o j
   rw [e] at h1 ⊢;refine ⟨v, ?_, h2⟩;show w.cell? ⟨a.block, a.off + d + i, none⟩ = some v;rw [Nat.add_assoc]; exact h1
theorem zoq {t e : TypeId} {x y : Operand} {len sz : Nat} {cs : List PV} {tl : Tail} (ho : o.op = .indexAddr t x y)
  (ht : P.underlying t = some (.slice e)) (hs : ye P e = some sz) (hx : σ.eval x = .tr len cs tl) (hy : σ.eval y = .val (.int k i)) (h0 : 0 <= i) (h1 : i < len) :
  QStep P o σ (.fz (cs.drop (i.toNat * sz))) :=
 zP fun w c act hr => by
  have hv := hr.2.eval x;have e2 := zm hr.2 hy;rw [hx] at hv;simp only [VR] at hv;rcases hv with ⟨_, hl, _⟩ | ⟨a, cap, hv, _, hf, _, hl, hc⟩
  ·omega
  ·exact ⟨.pointer (some (a.add (i.toNat * sz))), by simp only [execOp, ho, hv, e2, kB, z5w ht hs h0 h1, kA]; rfl,
    z3f hr.1 hf hl hc _⟩
theorem zop {t e : TypeId} {x y : Operand} {b off len cap sz : Nat} (ho : o.op = .indexAddr t x y)
  (ht : P.underlying t = some (.slice e)) (hs : ye P e = some sz) (hx : σ.eval x = .sl b off len cap) (hy : σ.eval y = .val (.int k i)) (h0 : 0 <= i) (h1 : i < len) :
  QStep P o σ (.ptr b (off + i.toNat * sz)) :=
 zP fun w c act hr => by
  have hv := hr.2.eval x;have e2 := zm hr.2 hy;rw [hx] at hv;simp only [VR] at hv;rcases hv with ⟨_, hv⟩ | ⟨kk, cap', off', hk, hv, h0', _⟩
  ·omega
  have hoo : off' = off := h0'.resolve_left (fun h => by omega)
  rw [hoo] at hv;refine ⟨.pointer (some ⟨kk, off + i.toNat * sz, none⟩), ?_, ?_⟩
  ·simp only [execOp, ho, hv, e2, kB, z5w ht hs h0 h1, kA, xz]; rfl
  ·simp only [VR]; exact ⟨kk, hk, rfl⟩
theorem zeb {t e : TypeId} {x y : Operand} {b off n sz : Nat} (ho : o.op = .indexAddr t x y)
  (ht : P.underlying t = some (.array n e)) (hs : ye P e = some sz) (hx : σ.eval x = .ptr b off) (hy : σ.eval y = .val (.int k i)) (h0 : 0 <= i) (h1 : i < n) :
  QStep P o σ (.ptr b (off + i.toNat * sz)) :=
 zP fun w c act hr => by
  have hv := hr.2.eval x;have e2 := zm hr.2 hy;rw [hx] at hv;simp only [VR] at hv;obtain ⟨kk, hk, hv⟩ := hv;refine ⟨.pointer (some ⟨kk, off + i.toNat * sz, none⟩), ?_, ?_⟩
  ·simp only [execOp, ho, hv, e2, kB, z5v ht hs h0 h1, kA, xz]; rfl
  ·simp only [VR]; exact ⟨kk, hk, rfl⟩
theorem zoo {t e : TypeId} {x y : Operand} {n sz : Nat} {cs : List PV} (ho : o.op = .indexAddr t x y)
  (ht : P.underlying t = some (.array n e)) (hs : ye P e = some sz) (hx : σ.eval x = .fz cs) (hy : σ.eval y = .val (.int k i)) (h0 : 0 <= i) (h1 : i < n) :
  QStep P o σ (.fz (cs.drop (i.toNat * sz))) :=
 zP fun w c act hr => by
  have hv := hr.2.eval x;have e2 := zm hr.2 hy;rw [hx] at hv;simp only [VR] at hv;obtain ⟨a, hv, hf, hl, hc⟩ := hv;exact ⟨.pointer (some (a.add (i.toNat * sz))), by simp only [execOp, ho, hv, e2, kB, z5v ht hs h0 h1, kA]; rfl,
    z3f hr.1 hf hl hc _⟩
theorem zgd {i fo : Nat} {cs : List PV} (ho : o.op = .fieldAddr t x i) (hf : zc9 P t i = some fo)
  (hx : σ.eval x = .fz cs) : QStep P o σ (.fz (cs.drop fo)) :=
 zP fun w c act hr => by
  have hv := hr.2.eval x;rw [hx] at hv;simp only [VR] at hv;obtain ⟨a, e, hft, hl, hc⟩ := hv;refine ⟨.pointer (some (a.add fo)), ?_, z3f hr.1 hft hl hc _⟩;simp only [execOp, ho, e, kB, zed hf, kA]; rfl
def zjo (P : Program) (t : TypeId) (cs : List PV) (off : Nat) (q : PV) : Prop :=
 ∀ w c (vs : Array Value), vs.size = cs.length -> zd cs -> VRs w c cs (fun i => vs[i]?) -> ∃ u, (part t vs off).run P w = .ok u w /\ VR w c q u
theorem zso {cs qs : List PV} {off n : Nat} (ha : xM P t = some true) (hn : ye P t = some n)
  (hq : (cs.drop off).take n = qs) (hlen : qs.length = n) : zjo P t cs off (.agg qs) := by
 intro w c vs hv hl h;refine ⟨.agg (vs.extract off (off + n)), by simp only [part, kB, z3e ha, kA, if_true, run_sizeOf hn]; rfl, ?_⟩
 simp only [VR];have hle : off + n <= cs.length \/ n = 0 := by
  have : ((cs.drop off).take n).length = n := by rw [hq, hlen]
  simp at this; omega
 refine ⟨_, rfl, by simp [hlen]; omega, fun q hq' => hl q (kS (kT (hq ▸ hq'))), zU fun i p hp => ?_⟩
 rw [<- hq, kO] at hp;split at hp
 ·rename_i hi;rw [kY] at hp;obtain ⟨u, h1, h2⟩ := zo h hp;refine ⟨u, ?_, h2⟩;rw [Array.getElem?_extract, if_pos (by omega)]
  exact h1
 ·cases hp
theorem zqm {cs : List PV} {off : Nat} (ha : xM P t = some false) (hq : cs[off]? = some q) : zjo P t cs off q := by
 intro w c vs hv _ h;obtain ⟨u, h1, h2⟩ := zo h hq;exact ⟨u, by simp only [part, kB, z3e ha, kA, kL, if_false, h1]; rfl, h2⟩
theorem ztt {i : Nat} {cs : List PV} {fs : Array Field} {f : Field} (ho : o.op = .field t x i)
  (ht : P.underlying t = some (.struct fs)) (hf : fs[i]? = some f) (hx : σ.eval x = .agg cs) (hp : zjo P f.type cs f.offset q) : QStep P o σ q :=
 zP fun w c act hr => by
  have hv := hr.2.eval x;rw [hx] at hv;simp only [VR] at hv;obtain ⟨vs, e, h1, hl, h2⟩ := hv;obtain ⟨u, h3, h4⟩ := hp w c vs h1 hl h2;refine ⟨u, ?_, h4⟩;simp only [execOp, ho, e, Instr.field, kB, run_underlying ht, kA, hf, asAgg, kI, h3]
theorem zvj {t e : TypeId} {x y : Operand} {n sz : Nat} {cs : List PV} (ho : o.op = .index t x y)
  (ht : P.underlying t = some (.array n e)) (hs : ye P e = some sz) (hx : σ.eval x = .agg cs) (hy : σ.eval y = .val (.int k i)) (h0 : 0 <= i) (h1 : i < n)
  (hp : zjo P e cs (i.toNat * sz) q) : QStep P o σ q :=
 zP fun w c act hr => by
  have hv := hr.2.eval x;have e2 := zm hr.2 hy;rw [hx] at hv;simp only [VR] at hv;obtain ⟨vs, ev, hn, hl, h2⟩ := hv;obtain ⟨u, h3, h4⟩ := hp w c vs hn hl h2;refine ⟨u, ?_, h4⟩;simp only [execOp, ho, ev, e2, Instr.index, kB, z2g, run_underlying ht, kA];rw [if_pos ⟨h0, h1⟩];simp only [kB, run_sizeOf hs, kA, h3, kI]
theorem zsu {x y : Operand} {s : ByteArray} {b : UInt8} (ho : o.op = .index t x y)
  (ht : P.underlying t = some .string) (hx : σ.eval x = .val (.string s)) (hy : σ.eval y = .val (.int k i)) (h0 : 0 <= i) (hb : s[i.toNat]? = some b) :
  QStep P o σ (.val (.int .u8 b.toNat)) :=
 zP fun w c act hr => by
  have e1 := zm hr.2 hx;have e2 := zm hr.2 hy;refine ⟨_, ?_, yH rfl⟩;simp only [execOp, ho, e1, e2, Instr.index, kB, z2g, run_underlying ht, kA];rw [if_pos h0, hb]; rfl
theorem zqu {i : Nat} {ps : List PV} (ho : o.op = .extract x i) (hx : σ.eval x = .tup ps)
  (hq : ps[i]? = some q) : QStep P o σ q :=
 zP fun w c act hr => by
  have hv := hr.2.eval x;rw [hx] at hv;simp only [VR] at hv;obtain ⟨vs, e, h1, h2⟩ := hv;obtain ⟨u, h3, h4⟩ := zo h2 hq;exact ⟨u, by simp [execOp, ho, e, Instr.extract, h3], h4⟩
theorem zhm {b off : Nat} (ho : o.op = .nilCheck x) (hx : σ.eval x = .ptr b off) : QStep P o σ (.ptr b off) :=
 zP fun w c act hr => by
  have hv := hr.2.eval x;rw [hx] at hv;have hv' := hv;simp only [VR] at hv;obtain ⟨k, _, e⟩ := hv;exact ⟨act.eval x, by simp only [execOp, ho, e]; rfl, hv'⟩
theorem zj6 {cs : List PV} (ho : o.op = .nilCheck x) (hx : σ.eval x = .fz cs) : QStep P o σ (.fz cs) :=
 zP fun w c act hr => by
  have hv := hr.2.eval x;rw [hx] at hv;have hv' := hv;simp only [VR] at hv;obtain ⟨k, e, _⟩ := hv;exact ⟨act.eval x, by simp only [execOp, ho, e]; rfl, hv'⟩
theorem zj5 {f : FuncId} {cs : List PV} (ho : o.op = .nilCheck x) (hx : σ.eval x = .fn f cs) : QStep P o σ (.fn f cs) :=
 zP fun w c act hr => by
  have hv := hr.2.eval x;rw [hx] at hv;have hv' := hv;simp only [VR] at hv;obtain ⟨k, e, _⟩ := hv;exact ⟨act.eval x, by simp only [execOp, ho, e]; rfl, hv'⟩
theorem qO {w w' : World} {ρ : Operand -> Value} {b : Builtin} {xs : Array Operand} {ats : Array TypeId} {n : Next}
  (ho : o.op = .call { callee := .builtin b, args := xs, argTypes := ats })
  (h : (builtin b ats o.type (xs.map fun | .const _ => true | _ => false) (xs.map ρ)).run P w = .ok n w') : (execOp ρ o).run P w = .ok n w' := by
 simp only [execOp, ho, resolve, kB, kI, kA, invoke];exact h
theorem zaw {t e : TypeId} {len : Nat} {cs : List PV} {tl : Tail}
  (ho : o.op = .call { callee := .builtin .len, args := #[x], argTypes := #[t] }) (ht : P.underlying t = some (.slice e)) (hx : σ.eval x = .tr len cs tl) :
  QStep P o σ (.val (.int .i64 len)) :=
 zP fun w c act hr => by
  have hv := hr.2.eval x;rw [hx] at hv;simp only [VR] at hv;have hl : ∃ a cap, act.eval x = .slice a len cap := by
   rcases hv with ⟨h1, h2, _⟩ | ⟨a, cap, h1, _⟩
   ·exact ⟨none, 0, by rw [h1, h2]⟩
   ·exact ⟨some a, cap, h1⟩
  obtain ⟨a, cap, e⟩ := hl;refine ⟨_, qO ho ?_, yH rfl⟩;simp [builtin, Builtin.len_, run_underlying ht, e, goInt]
theorem zsv {t e : TypeId} {b off len cap : Nat}
  (ho : o.op = .call { callee := .builtin .len, args := #[x], argTypes := #[t] }) (ht : P.underlying t = some (.slice e)) (hx : σ.eval x = .sl b off len cap) :
  QStep P o σ (.val (.int .i64 len)) :=
 zP fun w c act hr => by
  have hv := hr.2.eval x;rw [hx] at hv;simp only [VR] at hv;have hl : ∃ a cap, act.eval x = .slice a len cap := by
   rcases hv with ⟨⟨ad, h1⟩, h2⟩ | ⟨k, cap', off', _, h1, _⟩
   ·exact ⟨ad, 0, by rw [h1, h2]⟩
   ·exact ⟨_, _, h1⟩
  obtain ⟨a, cap', e⟩ := hl;refine ⟨_, qO ho ?_, yH rfl⟩;simp [builtin, Builtin.len_, run_underlying ht, e, goInt]
theorem zqv {s : ByteArray}
  (ho : o.op = .call { callee := .builtin .len, args := #[x], argTypes := #[t] }) (ht : P.underlying t = some .string) (hx : σ.eval x = .val (.string s)) :
  QStep P o σ (.val (.int .i64 s.size)) :=
 zP fun w c act hr => by
  have e := zm hr.2 hx;refine ⟨_, qO ho ?_, yH rfl⟩;simp [builtin, Builtin.len_, run_underlying ht, e, goInt]
theorem zvl {ats : Array TypeId} {x y : Operand} {a b : Int}
  (ho : o.op = .call { callee := .builtin .max, args := #[x, y], argTypes := ats }) (hx : σ.eval x = .val (.int k a)) (hy : σ.eval y = .val (.int k b)) :
  QStep P o σ (.val (.int k (if b > a then b else a))) :=
 zP fun w c act hr => by
  have e1 := zm hr.2 hx;have e2 := zm hr.2 hy;refine ⟨_, qO ho ?_, yH rfl⟩;simp [builtin, Builtin.max_, Builtin.max2, e1, e2]
theorem zvm {ats : Array TypeId} {x y : Operand} {a b : Int}
  (ho : o.op = .call { callee := .builtin .min, args := #[x, y], argTypes := ats }) (hx : σ.eval x = .val (.int k a)) (hy : σ.eval y = .val (.int k b)) :
  QStep P o σ (.val (.int k (if b < a then b else a))) :=
 zP fun w c act hr => by
  have e1 := zm hr.2 hx;have e2 := zm hr.2 hy;refine ⟨_, qO ho ?_, yH rfl⟩;simp [builtin, Builtin.min_, Builtin.min2, e1, e2]
def cellsOf : PV -> List PV
 | .agg cs => cs
 | p => [p]
def z7r : PV -> Bool
 | .tup _ | .dead => false
 | _ => true
theorem zby {p : PV} (hs : z7r p = true) (h : VR w c p v) :
  v.cells.size = (cellsOf p).length /\ zd (cellsOf p) /\ VRs w c (cellsOf p) (fun i => v.cells[i]?) := by
 by_cases hl : leaf p = true
 ·have e : cellsOf p = [p] := by cases p <;> first | rfl | cases hl
  have ev : v.cells = #[v] := by
   have := zan hl h;cases v <;> first | rfl | cases this
  rw [e, ev];refine ⟨rfl, fun q hq => by simp at hq; subst hq; exact hl, ?_⟩
  simp only [VRs];exact ⟨⟨v, rfl, h⟩, trivial⟩
 ·cases p <;> first | (exact absurd rfl hl) | (cases hs; done) | skip
  simp only [VR] at h;obtain ⟨vs, rfl, h1, h2, h3⟩ := h;exact ⟨h1, h2, h3⟩
def qK (P : Program) (t : TypeId) : Option (List PV) :=
 match (P.info? t).bind (·.zero) with
 | some v => some (v.cells.toList.map ofV)
 | none => none
theorem jy {cs : List PV} (h : qK P t = some cs) :
  ∃ v, (zeroValue t).run P w = .ok v w /\ v.cells.size = cs.length /\ ∀ c, VRs w c cs (fun i => v.cells[i]?) := by
 unfold qK at h;cases hi : P.info? t with
 | none => rw [hi] at h; cases h
 | some i =>
  rw [hi] at h;simp only [Option.bind_some] at h;cases hz : i.zero with
  | none => rw [hz] at h; cases h
  | some v =>
   rw [hz] at h;simp at h;subst h;refine ⟨v, by simp [zeroValue, typeInfo, hi, hz], by simp, fun c => zU fun j p hp => ?_⟩
   rw [kM] at hp;cases hj : v.cells.toList[j]? with
   | none => rw [hj] at hp; cases hp
   | some u =>
    rw [hj] at hp;simp at hp;subst hp;exact ⟨u, by simpa using hj, zpi u⟩
def z1n (P : Program) (t : TypeId) (i : Nat) : Option (Nat × Nat) :=
 match P.underlying t with
 | some (.struct fs) => match fs[i]? with
  | some f => (ye P f.type).map (fun n => (f.offset, n))
  | none => none
 | some (.array _ e) => (ye P e).map (fun n => (i * n, n))
 | _ => none
def z5j (place : Nat -> Option (Nat × Nat)) : List PV -> List (Nat × PV) -> List PV -> Prop
 | cs, [], r => cs = r
 | cs, (i, p) :: rest, r => ∃ off n, place i = some (off, n) /\ z7r p = true /\ (cellsOf p).length = n /\ off + n <= cs.length /\ z5j place (splice cs off (cellsOf p)) rest r
theorem zq5 {vs : List Value} : ∀ {cells : Array Value} {off j : Nat}, off + j + vs.length <= cells.size -> ∀ i,
  ((vs.zipIdx j).foldl (fun cs (x : Value × Nat) => cs.setIfInBounds (off + x.2) x.1) cells)[i]? = if off + j <= i /\ i < off + j + vs.length then vs[i - (off + j)]? else cells[i]? := by
 induction vs with
 | nil => intro cells off j _ i; simp; omega
 | cons v vs ih =>
  intro cells off j h i;simp only [List.zipIdx_cons, List.foldl_cons];rw [ih (by simp at h ⊢; omega)]
  simp only [List.length_cons] at h ⊢
  by_cases h1 : off + (j + 1) <= i /\ i < off + (j + 1) + vs.length
  ·rw [if_pos h1, if_pos (by omega)]
   have : i - (off + j) = (i - (off + (j + 1))) + 1 := by omega
   rw [this]; rfl
  ·rw [if_neg h1]
   by_cases h2 : i = off + j
   ·subst h2;rw [if_pos (by omega), kK (by omega)]
    simp
   ·rw [if_neg (by omega), kN (by omega)]
theorem zo5 {vs : List (Value × Nat)} {off : Nat} : ∀ {cells : Array Value}, (vs.foldl (fun cs (x : Value × Nat) => cs.setIfInBounds (off + x.2) x.1) cells).size = cells.size := by
 induction vs with
 | nil => intro _; rfl
 | cons v vs ih => intro cells; rw [List.foldl_cons, ih]; simp
theorem z3x (cs ps : List PV) (off i : Nat) (h : off + ps.length <= cs.length) :
  (splice cs off ps)[i]? = if off <= i /\ i < off + ps.length then ps[i - off]? else cs[i]? := by
 unfold splice;have hl : (cs.take off).length = off := by simp; omega
 by_cases h1 : i < off
 ·rw [if_neg (by omega), List.append_assoc, kE (by omega), kO, if_pos h1]
 ·by_cases h2 : i < off + ps.length
  ·rw [if_pos (by omega), List.append_assoc, kF (by omega), hl, kE (by omega)]
  ·rw [if_neg (by omega), kF (by simp; omega), kY]
   congr 1;simp; omega
theorem zb2 {w : World} {c : Cx} {place : Nat -> Option (Nat × Nat)} : ∀ {parts : List (Nat × PV)} {vals : List (Nat × Value)} {cs r : List PV} {cells : Array Value},
    z5j place cs parts r -> cells.size = cs.length -> zd cs -> VRs w c cs (fun i => cells[i]?) ->
    vals.length = parts.length -> (∀ (k i : Nat) (p : PV), parts[k]? = some (i, p) -> ∃ v, vals[k]? = some (i, v) /\ VR w c p v) ->
    ∃ out, Instr.fill place cells vals = some out /\ out.size = r.length /\ zd r /\ VRs w c r (fun i => out[i]?)
  | [], [], cs, r, cells, hf, hs, hl, hv, _, _ => by
    simp only [z5j] at hf; subst hf
    exact ⟨cells, rfl, hs, hl, hv⟩
  | (i, p) :: parts, x :: vals, cs, r, cells, hf, hs, hl, hv, hlen, hp => by
    obtain ⟨off, n, h1, h2, h3, h4, h5⟩ := hf
    obtain ⟨v, hx, hvp⟩ := hp 0 i p rfl
    simp at hx
    subst hx
    obtain ⟨g1, g2, g3⟩ := zby h2 hvp
    obtain ⟨out, e1, e2⟩ := zb2 (parts := parts) (vals := vals)
      (cells := v.cells.zipIdx.foldl (fun cs (x : Value × Nat) => cs.setIfInBounds (off + x.2) x.1) cells) h5
      (by rw [qB _ _ _ (by omega), <- hs]
          rw [<- Array.foldl_toList, Array.toList_zipIdx]
          exact zo5)
      (fun q hq => by
        simp only [splice, k9] at hq
        rcases hq with (hq | hq) | hq
        · exact hl q (kT hq)
        · exact g2 q hq
        · exact hl q (kS hq))
      (zU fun j q hq => by
        rw [z3x _ _ _ _ (by omega)] at hq
        rw [<- Array.foldl_toList, Array.toList_zipIdx]
        have := zq5 (vs := v.cells.toList) (cells := cells) (off := off) (j := 0) (by simp; omega) j
        simp only [Nat.add_zero, Array.length_toList, Array.getElem?_toList] at this
        rw [this, g1]
        split at hq
        · rename_i hj; rw [if_pos hj]; exact zo g3 hq
        · rename_i hj; rw [if_neg hj]; exact zo hv hq)
      (by simpa using hlen) (fun k i' p' hk => by
        obtain ⟨v', h6, h7⟩ := hp (k + 1) i' p' (by simpa using hk)
        exact ⟨v', by simpa using h6, h7⟩)
    refine ⟨out, ?_, e2⟩
    unfold Instr.fill
    simp only [h1]
    rw [if_neg (by simp; omega)]
    exact e1
  | [], _ :: _, _, _, _, _, _, _, _, h, _ => by simp at h
  | _ :: _, [], _, _, _, _, _, _, _, h, _ => by simp at h
theorem zgk (fs : List Field) (h : ∀ f, f ∈ fs -> ∃ n, ye P f.type = some n) :
  (fs.mapM (fun f => do pure (f.offset, <- sizeOf f.type) : Field -> Sem (Nat × Nat))).run P w = .ok (fs.map fun f => (f.offset, (ye P f.type).getD 0)) w := by
 induction fs with
 | nil => rfl
 | cons f fs ih =>
  obtain ⟨n, hn⟩ := h f (by simp)
  rw [List.mapM_cons];simp only [kB, run_sizeOf hn, kA, kI, ih (fun g hg => h g (by simp [hg]))]
  simp [hn]
def z9j (P : Program) (t : TypeId) : Bool :=
 match P.underlying t with
 | some (.struct fs) => fs.toList.all fun f => (ye P f.type).isSome
 | some (.array _ e) => (ye P e).isSome
 | _ => false
theorem zn7 {parts : Array (Nat × Operand)} {z r : List PV} {ps : List (Nat × PV)} (ho : o.op = .build t parts)
  (hz : qK P t = some z) (hzl : zd z) (hk : z9j P t = true) (hps : parts.toList.map (fun x => (x.1, σ.eval x.2)) = ps) (hf : z5j (z1n P t) z ps r) :
  QStep P o σ (.agg r) :=
 zP fun w c act hr => by
  obtain ⟨zv, hzr, hzs, hzv⟩ := jy (w := w) hz;have hvals : (parts.map fun (x : Nat × Operand) => (x.1, act.eval x.2)).toList.length = ps.length := by rw [<- hps]; simp
  have hrel : ∀ (k i : Nat) (p : PV), ps[k]? = some (i, p) -> ∃ v, (parts.map fun (x : Nat × Operand) => (x.1, act.eval x.2)).toList[k]? = some (i, v) /\ VR w c p v := by
   intro k i p hp;rw [<- hps, kM] at hp;cases hx : parts.toList[k]? with
   | none => rw [hx] at hp; cases hp
   | some x =>
    rw [hx] at hp;simp at hp;obtain ⟨rfl, rfl⟩ := hp;exact ⟨act.eval x.2, by rw [Array.toList_map, kM, hx]; rfl, hr.2.eval x.2⟩
  have key : ∃ out, (Instr.build t (parts.map fun (x : Nat × Operand) => (x.1, act.eval x.2))).run P w = .ok (.agg out) w /\ out.size = r.length /\ zd r /\ VRs w c r (fun i => out[i]?) := by
   unfold Instr.build;unfold z9j at hk;cases hu : P.underlying t with
   | none => rw [hu] at hk; cases hk
   | some d =>
    rw [hu] at hk;cases d <;> simp only [kL] at hk
    ·rename_i n e;obtain ⟨sz, hse⟩ := Option.isSome_iff_exists.1 hk;obtain ⟨out, e1, e2⟩ := zb2 hf hzs hzl (hzv c) hvals hrel;refine ⟨out, ?_, e2⟩;have hpl : z1n P t = fun i => some (i * sz, sz) := by funext i; simp [z1n, hu, hse]
     rw [hpl] at e1;simp only [kB, hzr, kA, run_underlying hu, run_sizeOf hse, e1];rfl
    ·rename_i fs;have hall : ∀ f, f ∈ fs.toList -> ∃ n, ye P f.type = some n := fun f hf' => by
      have := List.all_eq_true.1 hk f hf';exact Option.isSome_iff_exists.1 this
     obtain ⟨out, e1, e2⟩ := zb2 hf hzs hzl (hzv c) hvals hrel;refine ⟨out, ?_, e2⟩;have hpl : z1n P t = fun i => (fs.toList.map fun f => (f.offset, (ye P f.type).getD 0))[i]? := by
      funext i;simp only [z1n, hu, kM, Array.getElem?_toList];cases hi : fs[i]? with
      | none => rfl
      | some f =>
       obtain ⟨n, hn⟩ := hall f (Array.mem_toList_iff.2 (Array.mem_of_getElem? hi));simp [hn]
     rw [hpl] at e1;have hm : (fs.mapM fun f => do pure (f.offset, <- sizeOf f.type) : Sem (Array (Nat × Nat))).run P w = .ok (fs.toList.map fun f => (f.offset, (ye P f.type).getD 0)).toArray w := by
      rw [kW];rw [ka, zgk _ hall];rfl
     simp only [kB, hzr, kA, run_underlying hu, hm];have : (fun x => (fs.toList.map fun f => (f.offset, (ye P f.type).getD 0)).toArray[x]?) = fun (i : Nat) => (fs.toList.map fun f => (f.offset, (ye P f.type).getD 0))[i]? := by
      funext i; simp
     rw [this, e1];rfl
  obtain ⟨out, h1, h2, h3, h4⟩ := key;refine ⟨.agg out, ?_, ?_⟩
  ·simp only [execOp, ho, kB, h1, kA]; rfl
  ·simp only [VR]; exact ⟨out, rfl, h2, h3, h4⟩
theorem z9y {t e : TypeId} {n len : Nat} {parts : List (Nat × Value)} {ps : List (Nat × PV)} {z zs r : List PV}
  (ht : P.underlying t = some (.slice e)) (hs : ye P e = some n) (hn : n ≠ 0) (hl0 : len ≠ 0) (hz : qK P e = some z) (hzn : z.length = n) (hzl : zd z)
  (hzs : zs = (kQ len z).flatten) (hmax : len * n <= 2 ^ 24) (hf : z5j (fun i => some (i * n, n)) zs ps r)
  (hlen : parts.length = ps.length) (hp : ∀ (k i : Nat) (p : PV), ps[k]? = some (i, p) -> ∃ v, parts[k]? = some (i, v) /\ VR w c p v) :
  ∃ vs : Array Value, (Instr.buildSlice t len parts.toArray).run P w = .ok (.slice (some ⟨w.heap.size, 0, none⟩) len len) (grow w (.cells vs e (0, 0))) /\
   vs.size = r.length /\ zd r /\ VRs w c r (fun i => vs[i]?) := by
 obtain ⟨zv, hzr, hzs', hzv⟩ := jy (w := w) hz;have hlz : zs.length = len * n := by rw [hzs]; simp [hzn]
 have hzlf : zd zs := fun q hq => by
  rw [hzs, List.mem_flatten] at hq;obtain ⟨l, hl, hq⟩ := hq;rw [List.mem_replicate] at hl;exact hzl q (hl.2 ▸ hq)
 have hcell : VRs w c zs (fun i => ((Array.range (len * n)).map (fun j => zv.cells[j % zv.cells.size]!))[i]?) := zU fun i p hp => by
  have hi : i < len * n := by rw [<- hlz]; exact (kC.1 hp).1
  have hpos : 0 < n := Nat.pos_of_ne_zero hn;have hmod : i % n < z.length := by rw [hzn]; exact Nat.mod_lt _ hpos
  have hget : zs[i]? = z[i % n]? := by
   rw [hzs];clear hp hzlf hlz hzs hf hmax hl0 hmod
   induction len generalizing i with
   | zero => omega
   | succ len ih =>
    rw [List.replicate_succ, List.flatten_cons]
    by_cases hlt : i < n
    ·rw [kE (by omega), Nat.mod_eq_of_lt hlt]
    ·rw [kF (by omega), hzn, ih (i - n) (by rw [Nat.succ_mul] at hi; omega), <- Nat.mod_eq_sub_mod (by omega)]
  rw [hget] at hp;obtain ⟨v, h1, h2⟩ := zo (hzv c) hp;refine ⟨v, ?_, h2⟩;have hsz : zv.cells.size = n := by rw [hzs', hzn]
  simp [hi, hsz];rw [getElem!_def, h1]
 obtain ⟨out, e1, e2, e3, e4⟩ := zb2 hf (by simp [hlz]) hzlf hcell hlen hp
 refine ⟨out, ?_, e2, e3, e4⟩;unfold Instr.buildSlice;simp only [kB, run_underlying ht, kA, run_sizeOf hs];rw [if_neg (by omega)]
 have hne : len * n ≠ 0 := Nat.mul_ne_zero hl0 hn;simp only [kI, kA, if_neg hne, kB, hzr, e1];rfl
theorem zlh {t e : TypeId} {len n : Nat} {parts : Array (Nat × Operand)} {z zs r : List PV} {ps : List (Nat × PV)}
  (ho : o.op = .buildSlice t len parts) (ht : P.underlying t = some (.slice e)) (hs : ye P e = some n) (hn : n ≠ 0) (hl0 : len ≠ 0) (hz : qK P e = some z) (hzn : z.length = n) (hzl : zd z)
  (hzs : zs = (kQ len z).flatten) (hmax : len * n <= 2 ^ 24) (hps : parts.toList.map (fun x => (x.1, σ.eval x.2)) = ps) (hf : z5j (fun i => some (i * n, n)) zs ps r) :
  QStep P o σ (.tr len r .full) := by
 intro c a w K Q hr hK;have hvals : (parts.map fun (x : Nat × Operand) => (x.1, a.eval x.2)).toList.length = ps.length := by rw [<- hps]; simp
 have hrel : ∀ (k i : Nat) (p : PV), ps[k]? = some (i, p) -> ∃ v, (parts.map fun (x : Nat × Operand) => (x.1, a.eval x.2)).toList[k]? = some (i, v) /\ VR w c p v := by
  intro k i p hp;rw [<- hps, kM] at hp;cases hx : parts.toList[k]? with
  | none => rw [hx] at hp; cases hp
  | some x =>
   rw [hx] at hp;simp at hp;obtain ⟨rfl, rfl⟩ := hp;exact ⟨a.eval x.2, by rw [Array.toList_map, kM, hx]; rfl, hr.2.eval x.2⟩
 obtain ⟨vs, h1, h2, h3, h4⟩ := z9y ht hs hn hl0 hz hzn hzl hzs hmax hf hvals hrel;obtain ⟨g, x⟩ := zcy hr.1 (.cells vs e (0, 0));refine je (v := .slice (some ⟨w.heap.size, 0, none⟩) len len) (w' := grow w (.cells vs e (0, 0))) ?_ (hK _ _ ?_ g x)
 ·have h1' : (Instr.buildSlice t len (parts.map fun (x : Nat × Operand) => (x.1, a.eval x.2))).run P w =
    .ok (.slice (some ⟨w.heap.size, 0, none⟩) len len) (grow w (.cells vs e (0, 0))) := by have h1' := h1; rwa [Array.toArray_toList] at h1'
  simp only [execOp, ho, kB, h1', kA];rfl
 ·simp only [VR];refine .inr ⟨_, len, rfl, kH _, Foot.new hr.1 (by simp [grow]) _ _ _ rfl, rfl, h3, VRs.ext x r (fun i _ v hv => ?_) h4⟩
  show (grow w _).cell? ⟨w.heap.size, 0 + i, none⟩ = some v;rw [vU (z2r w _), Nat.zero_add]; exact hv
theorem zer {n : Nat} : ∀ (ps : List PV) (i : Nat) (done rest : List PV), done.length = i * n -> rest.length = ps.length * n -> (∀ p, p ∈ ps -> z7r p = true /\ (cellsOf p).length = n) ->
  z5j (fun i => some (i * n, n)) (done ++ rest) ((ps.zipIdx i).map fun x => (x.2, x.1)) (done ++ ps.flatMap cellsOf)
 | [], i, done, rest, _, hr, _ => by
  simp at hr;subst hr;simp [z5j]
 | p :: ps, i, done, rest, hd, hr, h => by
  obtain ⟨h1, h2⟩ := h p (by simp)
  simp only [List.length_cons, Nat.add_mul, Nat.one_mul] at hr;simp only [List.zipIdx_cons, List.map_cons, z5j];refine ⟨i * n, n, rfl, h1, h2, by simp; omega, ?_⟩
  have e : splice (done ++ rest) (i * n) (cellsOf p) = (done ++ cellsOf p) ++ rest.drop n := by
   unfold splice;rw [List.take_append_of_le_length (by omega), List.take_of_length_le (by omega), List.drop_append, List.drop_eq_nil_of_le (by omega)]
   have : i * n + (cellsOf p).length - done.length = n := by omega
   rw [this]; simp
  rw [e];have := zer ps (i + 1) (done ++ cellsOf p) (rest.drop n) (by simp [hd, h2, Nat.add_mul]) (by simp; omega) (fun q hq => h q (by simp [hq]))
  simpa using this
theorem zvk {t e : TypeId} {len n : Nat} {parts : Array (Nat × Operand)} {z : List PV} {ps : List PV}
  (ho : o.op = .buildSlice t len parts) (ht : P.underlying t = some (.slice e)) (hs : ye P e = some n) (hn : n ≠ 0) (hl0 : len ≠ 0) (hz : qK P e = some z) (hzn : z.length = n) (hzl : zd z)
  (hmax : len * n <= 2 ^ 24) (hlen : ps.length = len) (hps : parts.toList.map (fun x => (x.1, σ.eval x.2)) = (ps.zipIdx 0).map fun x => (x.2, x.1)) (hp : ∀ p, p ∈ ps -> z7r p = true /\ (cellsOf p).length = n) :
  QStep P o σ (.tr len (ps.flatMap cellsOf) .full) := by
 refine zlh ho ht hs hn hl0 hz hzn hzl rfl hmax hps ?_;have := zer ps 0 [] (kQ len z).flatten (by simp) (by simp [hzn, hlen]) hp
 simpa using this
def ACalls (P : Program) (f : FuncId) (args : List PV) (H : List AObj) (k : Nat) (R : PV -> List AObj -> List Bool -> Prop) : Prop :=
 ∀ w c (vs : Array Value), Good w c H (kQ k false) -> c.pn = 0 -> vs.size = args.length -> VRs w c args (fun i => vs[i]?) ->
  Calls P f vs w fun e w' => ∃ v p H' ts c', e = .returned v /\ R p H' ts /\ Good w' c' H' ts /\ VR w' c' p v /\ Ext w c w' c'
theorem ACalls.mono {P : Program} {f : FuncId} {args : List PV} {H : List AObj} {k : Nat} {R R' : PV -> List AObj -> List Bool -> Prop} (h : ACalls P f args H k R)
  (hr : ∀ p H' ts, R p H' ts -> R' p H' ts) : ACalls P f args H k R' :=
 fun w c vs g h0 hs hv => (h w c vs g h0 hs hv).mono fun _ _ ⟨v, p, H', ts, c', h1, h2, h3⟩ => ⟨v, p, H', ts, c', h1, hr _ _ _ h2, h3⟩
def zh1 (P : Program) (σ : AS) : ResultVar -> PV -> Prop
 | .tmp t, q => σ.get t = q
 | .cell a ty, q => ∃ p, σ.get a = p /\ za5 P σ.H ty p q
def znh (P : Program) (fn : Func) (σ : AS) (p : PV) : Prop :=
 ∀ w c (a : Act), Good w c σ.H σ.ts -> SlotsR w c σ a.tmps -> ∃ v, (results fn a.tmps).run P w = .ok v w /\ VR w c p v
def zjk (tmps : Array Value) : ResultVar -> Sem Value
 | .tmp t => pure (tmps.getD t undef)
 | .cell a t => do loadVar t (<- asAddr (tmps.getD a undef))
theorem zgi (fn : Func) (tmps : Array Value) : results fn tmps = (do
  let vs <- fn.results.mapM (zjk tmps)
  pure (if h : vs.size = 1 then vs[0] else .tuple vs)) := by
 unfold results;congr 2
theorem zlm {r : ResultVar} (h : zh1 P σ r q) {a : Act} (g : Good w c σ.H σ.ts) (hs : SlotsR w c σ a.tmps) :
  ∃ v, (zjk a.tmps r).run P w = .ok v w /\ VR w c q v := by
 cases r with
 | tmp t =>
  have := hs.eval (.tmp t);simp only [AS.eval] at this;rw [show σ.get t = q from h] at this
  exact ⟨_, rfl, this⟩
 | cell x t =>
  obtain ⟨p, hp, hl⟩ := h;have := hs.eval (.tmp x);simp only [AS.eval] at this;rw [hp] at this;obtain ⟨ad, u, h1, h2, h3⟩ := hl w c _ _ g this;have h1' : a.tmps.getD x undef = .pointer (some ad) := h1;refine ⟨u, ?_, h3⟩;simp only [zjk, h1', asAddr, kB, kI, kA, h2]
theorem zug {fn : Func} {r : ResultVar} (hr : fn.results = #[r]) (h : zh1 P σ r q) : znh P fn σ q := by
 intro w c a g hs;obtain ⟨v, h1, h2⟩ := zlm h g hs;refine ⟨v, ?_, h2⟩;rw [zgi, hr, kW, kB, ka];simp [h1]
theorem zij {P : Program} {σ : AS} {w : World} {c : Cx} {a : Act} (g : Good w c σ.H σ.ts) (hs : SlotsR w c σ a.tmps) : ∀ {rs : List ResultVar} {qs : List PV},
  rs.length = qs.length -> (∀ (i : Nat) r q, rs[i]? = some r -> qs[i]? = some q -> zh1 P σ r q) ->
  ∃ vs : List Value, (rs.mapM (zjk a.tmps)).run P w = .ok vs w /\ vs.length = qs.length /\ VRs w c qs (fun i => vs[i]?)
 | [], [], _, _ => ⟨[], rfl, rfl, trivial⟩
 | r :: rs, q :: qs, hl, h => by
  obtain ⟨v, h1, h2⟩ := zlm (h 0 r q rfl rfl) g hs;obtain ⟨vs, h3, h4, h5⟩ := zij g hs (rs := rs) (qs := qs) (by simpa using hl) (fun i r q hr hq => h (i + 1) r q (by simpa using hr) (by simpa using hq))
  refine ⟨v :: vs, ?_, by simp [h4], ?_⟩
  ·rw [List.mapM_cons, kB];rw [h1];simp only [kA, kB, h3, kI]
  ·simp only [VRs];exact ⟨⟨v, rfl, h2⟩, by simpa using h5⟩
 | [], _ :: _, hl, _ => by simp at hl
 | _ :: _, [], hl, _ => by simp at hl
theorem zt0 {fn : Func} {qs : List PV} (hl : fn.results.toList.length = qs.length) (hn : qs.length ≠ 1)
  (h : ∀ (i : Nat) r q, fn.results.toList[i]? = some r -> qs[i]? = some q -> zh1 P σ r q) : znh P fn σ (.tup qs) := by
 intro w c a g hs;obtain ⟨vs, h1, h2, h3⟩ := zij (P := P) g hs hl h;refine ⟨.tuple vs.toArray, ?_, ?_⟩
 ·rw [zgi, kW, kB, ka, h1];simp only [kA];rw [dif_neg (by simp; omega)]
  rfl
 ·simp only [VR];exact ⟨_, rfl, by simp [h2], by simpa using h3⟩
def z47 : List PV -> Nat -> List (Nat × PV)
 | [], _ => []
 | p :: ps, i => (i, p) :: z47 ps (i + 1)
theorem zbj : ∀ (args : List PV) (i t : Nat) (p : PV), look (z47 args i) t = some p -> i <= t /\ args[t - i]? = some p
 | [], _, _, _, h => by simp [z47, look] at h
 | q :: args, i, t, p, h => by
  simp only [z47, look] at h;cases hb : k8 i t with
  | true =>
   have := kZ hb;subst this;rw [hb] at h;simp at h;subst h;exact ⟨kH _, by simp⟩
  | false =>
   rw [hb] at h;simp at h;obtain ⟨h1, h2⟩ := zbj args (i + 1) t p h;refine ⟨by omega, ?_⟩
   have : t - i = (t - (i + 1)) + 1 := by omega
   rw [this];simpa using h2
mutual
def Pure : PV -> Prop
 | .val _ => True
 | .ptr _ _ => False
 | .fz cs => yf cs
 | .sl _ _ _ _ => False
 | .tr _ cs t => t.isTok = false /\ yf cs
 | .fn _ caps => yf caps
 | .agg cs => yf cs
 | .tup cs => yf cs
 | .ifc _ p => Pure p
 | .mp _ => False
 | .one => True
 | .dead => True
def yf : List PV -> Prop
 | [] => True
 | p :: ps => Pure p /\ yf ps
end
theorem yP : ∀ {ps : List PV}, yf ps ↔ ∀ p, p ∈ ps -> Pure p
 | [] => by simp [yf]
 | p :: ps => by simp [yf, yP (ps := ps)]
mutual
theorem VR.transfer {w : World} {c c' : Cx} (hf : ∀ a n, Foot w c a n -> Foot w c' a n) : ∀ (p : PV) {v : Value}, Pure p -> VR w c p v -> VR w c' p v
 | .val _, _, _, h => by simp only [VR] at h ⊢; exact h
 | .ptr b off, _, hp, _ => by simp only [Pure] at hp
 | .fz cs, _, hp, h => by
  simp only [VR] at h ⊢;simp only [Pure] at hp;obtain ⟨a, h1, h2, hl, h3⟩ := h;exact ⟨a, h1, hf _ _ h2, hl, VRs.transfer hf cs hp h3⟩
 | .sl b off len cap, _, hp, _ => by simp only [Pure] at hp
 | .tr len cs t, _, hp, h => by
  simp only [VR] at h ⊢;simp only [Pure] at hp;rcases h with h | ⟨a, cap, h1, hc, h2, h4, hl, h3⟩
  ·exact .inl h
  ·refine .inr ⟨a, cap, h1, hc, hf _ _ h2, ?_, hl, VRs.transfer hf cs hp.2 h3⟩;cases t with
   | no => trivial
   | full => exact h4
   | tok i sz => cases hp.1
 | .fn f caps, _, hp, h => by
  simp only [VR] at h ⊢;simp only [Pure] at hp;obtain ⟨cv, h1, h2, h3⟩ := h;exact ⟨cv, h1, h2, VRs.transfer hf caps hp h3⟩
 | .agg cs, _, hp, h => by
  simp only [VR] at h ⊢;simp only [Pure] at hp;obtain ⟨cv, h1, h2, hl, h3⟩ := h;exact ⟨cv, h1, h2, hl, VRs.transfer hf cs hp h3⟩
 | .tup cs, _, hp, h => by
  simp only [VR] at h ⊢;simp only [Pure] at hp;obtain ⟨cv, h1, h2, h3⟩ := h;exact ⟨cv, h1, h2, VRs.transfer hf cs hp h3⟩
 | .ifc t p, _, hp, h => by
  simp only [VR] at h ⊢;simp only [Pure] at hp;obtain ⟨v, h1, h2⟩ := h;exact ⟨v, h1, VR.transfer hf p hp h2⟩
 | .mp _, _, hp, _ => by simp only [Pure] at hp
 | .one, _, _, h => by simp only [VR] at h ⊢; exact h
 | .dead, _, _, _ => by simp only [VR]
theorem VRs.transfer {w : World} {c c' : Cx} (hf : ∀ a n, Foot w c a n -> Foot w c' a n) : ∀ (ps : List PV) {f : Nat -> Option Value}, yf ps -> VRs w c ps f -> VRs w c' ps f
 | [], _, _, _ => by simp only [VRs]
 | p :: ps, f, hp, h => by
  simp only [VRs] at h ⊢;simp only [yf] at hp;obtain ⟨⟨v, h1, h2⟩, h3⟩ := h;exact ⟨⟨v, h1, VR.transfer hf p hp.1 h2⟩, VRs.transfer hf ps hp.2 h3⟩
end
def qg (w : World) (c : Cx) (k : Nat) : Cx :=
 {m := [], T := kQ k none,
  ok := fun b e => b < w.heap.size -> some b ∉ c.m /\ (∀ i j : Nat, c.T[i]? = some (some (b, j)) -> e <= j) /\ c.ok b e }
theorem zme {H : List AObj} {ts : List Bool} (g : Good w c H ts) (k : Nat) : Good w (qg w c k) [] (kQ k false) where
 len := rfl
 inj := fun i j k h => by simp [qg] at h
 obj := fun b o h => by simp at h
 tl := by simp [qg]
 tal := fun i h => by
  rw [kD] at h;split at h <;> simp at h
 tdead := fun i h => by
  rw [kD] at h;simp only [qg];rw [kD];split at h
  ·rename_i hi; rw [if_pos hi]
  ·cases h
 tok := fun i k' j h => by
  simp only [qg] at h;rw [kD] at h;split at h <;> simp at h
 tinj := fun i i' k' j j' h => by
  simp only [qg] at h;rw [kD] at h;split at h <;> simp at h
 okn := fun k' e h hlt => absurd h (Nat.not_le.2 hlt)
 okm := fun k' e e' h hle hlt => by
  obtain ⟨h1, h2, h3⟩ := h hlt;exact ⟨h1, fun i j h => kG hle (h2 i j h), g.okm _ _ _ h3 hle⟩
 okt := fun i k' j h => by
  simp only [qg] at h;rw [kD] at h;split at h <;> simp at h
 oko := fun b k' _ h => by simp [qg] at h
 gl := g.gl.sub (fun k' h => by simp [qg] at h) fun i k' j h => by
  simp only [qg] at h;rw [kD] at h;split at h <;> simp at h
theorem zmd (k : Nat) (a : Addr) (n : Nat) (h : Foot w c a n) : Foot w (qg w c k) a n := by
 rcases h with h | ⟨h1, h2, h3, h4, h5⟩
 ·exact .inl h
 ·refine .inr ⟨h1, h2, by simp [qg], fun i j h => ?_, fun _ => ⟨h3, h4, h5⟩⟩
  simp only [qg] at h;rw [kD] at h;split at h <;> simp at h
def z0n (P : Program) (f : FuncId) : Bool :=
 match P.funcs[f]? with
 | some fn => fn.body.isSome && fn.name != "runtime.NumGoroutine"
 | none => false
theorem zll {f : FuncId} (h : z0n P f = true) (args : Array Value) (w : World) : (callFunc f args).run P w = .ok (.enter f args) w := by
 unfold z0n at h;unfold callFunc;cases hf : P.funcs[f]? with
 | none => rw [hf] at h; cases h
 | some fn =>
  rw [hf] at h;simp at h;simp only [kB, run_program, kA, hf];have hne : (fn.name == "runtime.NumGoroutine") = false := by simpa using h.2
  have hbn : fn.body.isNone = false := by cases hb : fn.body <;> simp_all
  simp only [hne, hbn, kL, if_false];rfl
end Go.Ab
