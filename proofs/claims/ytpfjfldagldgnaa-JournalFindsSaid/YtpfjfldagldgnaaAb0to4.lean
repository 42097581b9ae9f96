import Derived.Laws.Sem
import Derived.Laws.Cells
import Derived.Orders
namespace Go.Ab
def gb : Nat := 0
def Glob (_ : World) : Prop := True
theorem Glob.stay {w w' : World} (_ : ∀ k, k < gb → w'.heap[k]? = w.heap[k]?) (_ : Glob w) : Glob w' := trivial
end Go.Ab
namespace Go.Ab
inductive Tail where
 | no
 | full
 | tok (i sz : Nat)
inductive PV where
 | val (v : Value)
 | ptr (b off : Nat)
 | fz (cs : List PV)
 | sl (b off len cap : Nat)
 | tr (len : Nat) (cs : List PV) (t : Tail)
 | fn (f : FuncId) (caps : List PV)
 | agg (cs : List PV)
 | tup (vs : List PV)
 | ifc (t : TypeId) (v : PV)
 | one
 | dead
inductive AObj where
 | row (cs : List PV) (e : TypeId)
 | raw (o : Obj)
 | gone
structure Cx where
 m : List (Option Nat)
 T : List (Option (Nat × Nat))
 ok : Nat → Nat → Prop
 pn : Nat := 0
def plain : Value → Bool
 | .bool _ | .int _ _ | .float _ _ | .string _ | .pointer none | .nilFunc | .nilIface | .map none | .func (.yield _) ⟨[]⟩ ⟨[]⟩ => true
 | _ => false
def nofz (fr : Nat × Nat) (n : Nat) : Prop := fr.1 = fr.2 ∨ n ≤ fr.1
theorem nofz.no {fr : Nat × Nat} {n : Nat} (h : nofz fr n) (i : Nat) (hi : i < n) : ¬(fr.1 ≤ i ∧ i < fr.2) := by rcases h with h | h <;> omega
theorem zf4 (n : Nat) : nofz (0, 0) n := .inl rfl
def Foot (w : World) (c : Cx) (a : Addr) (n : Nat) : Prop :=
 n = 0 ∨ (a.spot = none ∧ a.block < w.heap.size ∧ some a.block ∉ c.m ∧ (∀ i k : Nat, c.T[i]? = some (some (a.block, k)) → a.off + n ≤ k) ∧ c.ok a.block (a.off + n))
def TailOK (w : World) (c : Cx) (a : Addr) (len cap n : Nat) : Tail → Prop
 | .no => True
 | .full => cap = len
 | .tok i sz => i < c.T.length ∧ ∀ β k : Nat, c.T[i]? = some (some (β, k)) →
     a = ⟨β, k - n, none⟩ ∧ n ≤ k ∧ n = len * sz ∧ ∃ vs e fr, w.heap[β]? = some (.cells vs e fr) ∧ a.off + cap * sz ≤ vs.size
def Tail.isTok : Tail → Bool
 | .tok _ _ => true
 | _ => false
def leaf : PV → Bool
 | .agg _ | .tup _ | .dead => false
 | _ => true
def Leafs (cs : List PV) : Prop := ∀ p, p ∈ cs → leaf p = true
mutual
def VR (w : World) (c : Cx) : PV → Value → Prop
 | .val v, u => u = v ∧ plain v = true
 | .ptr b off, u => ∃ k, c.m[b]? = some (some k) ∧ u = .pointer (some ⟨k, off, none⟩)
 | .fz cs, u => ∃ a : Addr, u = .pointer (some a) ∧ Foot w c a cs.length ∧ Leafs cs ∧ VRs w c cs (fun i => w.cell? ⟨a.block, a.off + i, none⟩)
 | .sl b off len sz, u => ((∃ ad, u = .slice ad 0 0) ∧ len = 0) ∨ ∃ k cap off', c.m[b]? = some (some k) ∧ u = .slice (some ⟨k, off', none⟩) len cap ∧ ((len = 0 ∧ off ≠ 0) ∨ off' = off) ∧ len ≤ cap ∧ ∃ (vs : Array Value) (e : TypeId) (fr : Nat × Nat), w.heap[k]? = some (Obj.cells vs e fr) ∧ off' + cap * sz ≤ vs.size
 | .tr len cs t, u => (u = .slice none 0 0 ∧ len = 0 ∧ cs = [] ∧ t.isTok = false) ∨
     ∃ (a : Addr) (cap : Nat), u = .slice (some a) len cap ∧ len ≤ cap ∧ Foot w c a cs.length ∧ TailOK w c a len cap cs.length t ∧ Leafs cs ∧
       VRs w c cs (fun i => w.cell? ⟨a.block, a.off + i, none⟩)
 | .fn f caps, u => ∃ cv : Array Value, u = .func (.func f) #[] cv ∧ cv.size = caps.length ∧ VRs w c caps (fun i => cv[i]?)
 | .agg cs, u => ∃ cv : Array Value, u = .agg cv ∧ cv.size = cs.length ∧ Leafs cs ∧ VRs w c cs (fun i => cv[i]?)
 | .tup cs, u => ∃ cv : Array Value, u = .tuple cv ∧ cv.size = cs.length ∧ VRs w c cs (fun i => cv[i]?)
 | .ifc t p, u => ∃ v, u = .iface t v ∧ VR w c p v
 | .one, u => u.oneCell' = true
 | .dead, _ => True
def VRs (w : World) (c : Cx) : List PV → (Nat → Option Value) → Prop
 | [], _ => True
 | p :: ps, f => (∃ v, f 0 = some v ∧ VR w c p v) ∧ VRs w c ps (fun i => f (i + 1))
end
structure Ext (w : World) (c : Cx) (w' : World) (c' : Cx) : Prop where
 os : w'.os = w.os
 tape : w'.tape = w.tape
 output : w'.output = w.output
 size : w.heap.size ≤ w'.heap.size
 ids : ∀ b k : Nat, c.m[b]? = some (some k) → c'.m[b]? = some (some k)
 new : ∀ k : Nat, some k ∈ c'.m → some k ∈ c.m ∨ w.heap.size ≤ k
 blocks : ∀ k : Nat, k < w.heap.size → some k ∉ c.m → (∀ i j : Nat, c.T[i]? ≠ some (some (k, j))) → w'.heap[k]? = w.heap[k]?
 cells : ∀ k : Nat, k < w.heap.size → some k ∉ c.m → ∀ off v, (∀ i j : Nat, c.T[i]? = some (some (k, j)) → off < j) →
   w.cell? ⟨k, off, none⟩ = some v → w'.cell? ⟨k, off, none⟩ = some v
 toks : ∀ i k j : Nat, c'.T[i]? = some (some (k, j)) → w.heap.size ≤ k ∨ ∃ i' j' : Nat, c.T[i']? = some (some (k, j')) ∧ j' ≤ j
 stay : ∀ i k j : Nat, i < c.T.length → c'.T[i]? = some (some (k, j)) → c.T[i]? = some (some (k, j)) ∧ w'.heap[k]? = w.heap[k]?
 tlen : c.T.length ≤ c'.T.length
 room : ∀ (k : Nat) (vs : Array Value) (e : TypeId) (fr : Nat × Nat), w.heap[k]? = some (Obj.cells vs e fr) → ∃ (vs' : Array Value) (fr' : Nat × Nat), w'.heap[k]? = some (Obj.cells vs' e fr') ∧ vs'.size = vs.size
 ok : c'.ok = c.ok
 pn : c'.pn = c.pn
theorem Ext.refl (w : World) (c : Cx) : Ext w c w c where
 os := rfl
 tape := rfl
 output := rfl
 size := Nat.le_refl _
 ids := fun _ _ h => h
 new := fun _ h => .inl h
 blocks := fun _ _ _ _ => rfl
 cells := fun _ _ _ _ _ _ h => h
 toks := fun i _ j h => .inr ⟨i, j, h, Nat.le_refl _⟩
 stay := fun _ _ _ _ h => ⟨h, rfl⟩
 tlen := Nat.le_refl _
 room := fun _ vs _ fr h => ⟨vs, fr, h, rfl⟩
 ok := rfl
 pn := rfl
theorem Ext.trans {w w1 w2 : World} {c c1 c2 : Cx} (h : Ext w c w1 c1) (g : Ext w1 c1 w2 c2) : Ext w c w2 c2 where
 os := g.os.trans h.os
 tape := g.tape.trans h.tape
 output := g.output.trans h.output
 size := Nat.le_trans h.size g.size
 ids := fun b _ x => g.ids b _ (h.ids b _ x)
 new := fun _ x => (g.new _ x).elim (fun y => h.new _ y) (fun y => .inr (Nat.le_trans h.size y))
 blocks := fun k hk hm ht => by
   have hm1 : some k ∉ c1.m := fun x => (h.new k x).elim hm (fun y => absurd hk (Nat.not_lt.2 y))
   rw [g.blocks k (Nat.lt_of_lt_of_le hk h.size) hm1 ?_, h.blocks k hk hm ht]
   intro i j e
   rcases h.toks i k j e with y | ⟨i', j', e', _⟩
   · exact absurd hk (Nat.not_lt.2 y)
   · exact ht _ _ e'
 cells := fun k hk hm off v ht hv => by
   have hm1 : some k ∉ c1.m := fun x => (h.new k x).elim hm (fun y => absurd hk (Nat.not_lt.2 y))
   refine g.cells k (Nat.lt_of_lt_of_le hk h.size) hm1 off v ?_ (h.cells k hk hm off v ht hv)
   intro i j e
   rcases h.toks i k j e with y | ⟨i', j', e', le⟩
   · exact absurd hk (Nat.not_lt.2 y)
   · exact Nat.lt_of_lt_of_le (ht _ _ e') le
 toks := fun i k j e => by
   rcases g.toks i k j e with y | ⟨i', j', e', le⟩
   · exact .inl (Nat.le_trans h.size y)
   · rcases h.toks i' k j' e' with y | ⟨i2, j2, e2, le2⟩
     · exact .inl y
     · exact .inr ⟨i2, j2, e2, Nat.le_trans le2 le⟩
 stay := fun i k j hi e => by
   obtain ⟨e1, h1⟩ := g.stay i k j (Nat.lt_of_lt_of_le hi h.tlen) e
   obtain ⟨e2, h2⟩ := h.stay i k j hi e1
   exact ⟨e2, h1.trans h2⟩
 tlen := Nat.le_trans h.tlen g.tlen
 room := fun k vs e fr h0 => by
   obtain ⟨vs1, fr1, h1, e1⟩ := h.room k vs e fr h0
   obtain ⟨vs2, fr2, h2, e2⟩ := g.room k vs1 e fr1 h1
   exact ⟨vs2, fr2, h2, e2.trans e1⟩
 ok := g.ok.trans h.ok
 pn := g.pn.trans h.pn
structure Gl (w : World) (c : Cx) : Prop where
 sz : gb ≤ w.heap.size
 m : ∀ k : Nat, some k ∈ c.m → gb ≤ k
 T : ∀ i k j : Nat, c.T[i]? = some (some (k, j)) → gb ≤ k
 var : Glob w
theorem Gl.ext {w w' : World} {c c' : Cx} (g : Gl w c) (x : Ext w c w' c') : Gl w' c' where
 sz := Nat.le_trans g.sz x.size
 m := fun k h => (x.new k h).elim (g.m k) (Nat.le_trans g.sz)
 T := fun i k j h => (x.toks i k j h).elim (Nat.le_trans g.sz) fun ⟨i', j', h', _⟩ => g.T i' k j' h'
 var := Glob.stay (fun k hk => x.blocks k (Nat.lt_of_lt_of_le hk g.sz) (fun h => Nat.not_lt.2 (g.m k h) hk) (fun i j h => Nat.not_lt.2 (g.T i k j h) hk)) g.var
theorem Gl.sub {w : World} {c c' : Cx} (g : Gl w c) (hm : ∀ k : Nat, some k ∈ c'.m → some k ∈ c.m) (hT : ∀ i k j : Nat, c'.T[i]? = some (some (k, j)) → ∃ i' : Nat, c.T[i']? = some (some (k, j))) : Gl w c' where
 sz := g.sz
 m := fun k h => g.m k (hm k h)
 T := fun i k j h => (hT i k j h).elim fun i' h' => g.T i' k j h'
 var := g.var
theorem Foot.ext {w w' : World} {c c' : Cx} (x : Ext w c w' c') {a : Addr} {n : Nat} (h : Foot w c a n) : Foot w' c' a n := by
 rcases h with h | ⟨hs, hb, hm, ht, ho⟩
 · exact .inl h
 · refine .inr ⟨hs, Nat.lt_of_lt_of_le hb x.size, fun y => (x.new _ y).elim hm (fun z => absurd hb (Nat.not_lt.2 z)), fun i k e => ?_, by rw [x.ok]; exact ho⟩
   rcases x.toks i _ k e with y | ⟨i', j', e', le⟩
   · exact absurd hb (Nat.not_lt.2 y)
   · exact Nat.le_trans (ht _ _ e') le
theorem TailOK.ext {w w' : World} {c c' : Cx} (x : Ext w c w' c') {a : Addr} {len cap n : Nat} {t : Tail} (h : TailOK w c a len cap n t) : TailOK w' c' a len cap n t := by
 cases t with
 | no => exact trivial
 | full => exact h
 | tok i sz =>
   obtain ⟨hi, h⟩ := h
   refine ⟨Nat.lt_of_lt_of_le hi x.tlen, fun β k e => ?_⟩
   obtain ⟨e0, hh⟩ := x.stay i β k hi e
   obtain ⟨h1, h2, h3, vs, el, fr, h4, h5⟩ := h β k e0
   exact ⟨h1, h2, h3, vs, el, fr, hh.trans h4, h5⟩
mutual
theorem VR.ext {w w' : World} {c c' : Cx} (x : Ext w c w' c') : ∀ (p : PV) {v : Value}, VR w c p v → VR w' c' p v
 | .val _, _, h => by simp only [VR] at h ⊢; exact h
 | .ptr b off, _, h => by
   simp only [VR] at h ⊢
   obtain ⟨k, h1, h2⟩ := h
   exact ⟨k, x.ids _ _ h1, h2⟩
 | .fz cs, _, h => by
   simp only [VR] at h ⊢
   obtain ⟨a, h1, h2, hl, h3⟩ := h
   refine ⟨a, h1, h2.ext x, hl, VRs.ext x cs ?_ h3⟩
   intro i hi v hv
   rcases h2 with h2 | ⟨hs, hb, hm, ht, _⟩
   · omega
   · exact x.cells _ hb hm _ v (fun j k e => by have := ht j k e; omega) hv
 | .sl b off len sz, _, h => by
   simp only [VR] at h ⊢
   rcases h with h | ⟨k, cap, off', h1, h2, h0, h3, vs, e, fr, h4, h5⟩
   · exact .inl h
   · obtain ⟨vs', fr', h6, h7⟩ := x.room k vs e fr h4
     exact .inr ⟨k, cap, off', x.ids _ _ h1, h2, h0, h3, vs', e, fr', h6, by omega⟩
 | .tr len cs t, _, h => by
   simp only [VR] at h ⊢
   rcases h with h | ⟨a, cap, h1, hc, h2, h4, hl, h3⟩
   · exact .inl h
   · refine .inr ⟨a, cap, h1, hc, h2.ext x, h4.ext x, hl, VRs.ext x cs ?_ h3⟩
     intro i hi v hv
     rcases h2 with h2 | ⟨hs, hb, hm, ht, _⟩
     · omega
     · exact x.cells _ hb hm _ v (fun j k e => by have := ht j k e; omega) hv
 | .fn f caps, _, h => by
   simp only [VR] at h ⊢
   obtain ⟨cv, h1, h2, h3⟩ := h
   exact ⟨cv, h1, h2, VRs.ext x caps (fun _ _ _ e => e) h3⟩
 | .agg cs, _, h => by
   simp only [VR] at h ⊢
   obtain ⟨cv, h1, h2, hl, h3⟩ := h
   exact ⟨cv, h1, h2, hl, VRs.ext x cs (fun _ _ _ e => e) h3⟩
 | .tup cs, _, h => by
   simp only [VR] at h ⊢
   obtain ⟨cv, h1, h2, h3⟩ := h
   exact ⟨cv, h1, h2, VRs.ext x cs (fun _ _ _ e => e) h3⟩
 | .ifc t p, _, h => by
   simp only [VR] at h ⊢
   obtain ⟨v, h1, h2⟩ := h
   exact ⟨v, h1, VR.ext x p h2⟩
 | .one, _, h => by simp only [VR] at h ⊢; exact h
 | .dead, _, _ => by simp only [VR]
theorem VRs.ext {w w' : World} {c c' : Cx} (x : Ext w c w' c') : ∀ (ps : List PV) {f g : Nat → Option Value},
   (∀ i, i < ps.length → ∀ v, f i = some v → g i = some v) → VRs w c ps f → VRs w' c' ps g
 | [], _, _, _, _ => by simp only [VRs]
 | p :: ps, f, g, hfg, h => by
   simp only [VRs] at h ⊢
   obtain ⟨⟨v, h1, h2⟩, h3⟩ := h
   exact ⟨⟨v, hfg 0 (by simp) v h1, VR.ext x p h2⟩, VRs.ext x ps (fun i hi u hu => hfg (i + 1) (by simp; omega) u hu) h3⟩
end
end Go.Ab
namespace Go.Ab
structure AS where
 n : Nat
 slots : List (Nat × PV)
 H : List AObj
 ts : List Bool
def look : List (Nat × PV) → Nat → Option PV
 | [], _ => none
 | (t, p) :: r, s => bif Nat.beq t s then some p else look r s
def ofV : Value → PV
 | .bool b => .val (.bool b)
 | .int k n => .val (.int k n)
 | .string s => .val (.string s)
 | .pointer none => .val (.pointer none)
 | .nilFunc => .val .nilFunc
 | .nilIface => .val .nilIface
 | .map none => .val (.map none)
 | .slice none 0 0 => .tr 0 [] .full
 | .func (.func f) ⟨[]⟩ ⟨[]⟩ => .fn f []
 | .tuple ⟨[]⟩ => .tup []
 | _ => .dead
def AS.get (σ : AS) (t : Nat) : PV := bif Nat.blt t σ.n then (look σ.slots t).getD .dead else .dead
def AS.eval (σ : AS) : Operand → PV
 | .tmp t => σ.get t
 | .const v => ofV v
 | .global _ => .dead
 | .func f => .fn f []
def AS.put (σ : AS) (d : Option Nat) (p : PV) : AS :=
 match d with
 | some d => { σ with slots := (d, p) :: σ.slots }
 | none => σ
def SlotsR (w : World) (c : Cx) (σ : AS) (tmps : Array Value) : Prop :=
 tmps.size = σ.n ∧ ∀ t p, look σ.slots t = some p → t < σ.n → ∃ v, tmps[t]? = some v ∧ VR w c p v
def ObjC (w : World) (c : Cx) (b : Nat) : AObj → Prop
 | .row cs e => (cs = [] ∧ c.m[b]? = some none) ∨ ∃ k vs fr, c.m[b]? = some (some k) ∧ w.heap[k]? = some (.cells vs e fr) ∧ nofz fr vs.size ∧ cs.length ≤ vs.size ∧ Leafs cs ∧ VRs w c cs (fun i => vs[i]?)
 | .raw o => ∃ k, c.m[b]? = some (some k) ∧ w.heap[k]? = some o
 | .gone => c.m[b]? = some none
theorem ObjC.row {w : World} {c : Cx} {b k : Nat} {cs : List PV} {e : TypeId} (h : ObjC w c b (.row cs e)) (hk : c.m[b]? = some (some k)) :
   ∃ vs fr, w.heap[k]? = some (.cells vs e fr) ∧ nofz fr vs.size ∧ cs.length ≤ vs.size ∧ Leafs cs ∧ VRs w c cs (fun i => vs[i]?) := by
 rcases h with ⟨_, h⟩ | ⟨k', vs, fr, h1, h2⟩
 · rw [hk] at h; cases h
 · rw [hk] at h1; cases h1; exact ⟨vs, fr, h2⟩
theorem ObjC.pass {w w' : World} {c c' : Cx} {b : Nat} {o : AObj} (x : Ext w c w' c') (hm : ∀ k : Nat, c.m[b]? = some (some k) → c'.m[b]? = some (some k) ∧ w'.heap[k]? = w.heap[k]?)
   (hn : c.m[b]? = some none → c'.m[b]? = some none) (h : ObjC w c b o) : ObjC w' c' b o := by
 cases o with
 | row cs e =>
   rcases h with ⟨h1, h2⟩ | ⟨k, vs, fr, h1, h2, hf, h3, hl, h4⟩
   · exact .inl ⟨h1, hn h2⟩
   · exact .inr ⟨k, vs, fr, (hm k h1).1, (hm k h1).2.trans h2, hf, h3, hl, VRs.ext x cs (fun _ _ _ e => e) h4⟩
 | raw o =>
   obtain ⟨k, h1, h2⟩ := h
   exact ⟨k, (hm k h1).1, (hm k h1).2.trans h2⟩
 | gone => exact hn h
structure Good (w : World) (c : Cx) (H : List AObj) (ts : List Bool) : Prop where
 len : c.m.length = H.length
 inj : ∀ i j k : Nat, c.m[i]? = some (some k) → c.m[j]? = some (some k) → i = j
 obj : ∀ b o, H[b]? = some o → ObjC w c b o
 tl : c.T.length = ts.length
 tal : ∀ i : Nat, ts[i]? = some true → ∃ k j, c.T[i]? = some (some (k, j))
 tdead : ∀ i : Nat, ts[i]? = some false → c.T[i]? = some none
 tok : ∀ i k j : Nat, c.T[i]? = some (some (k, j)) → some k ∉ c.m ∧ ∃ vs e fr, w.heap[k]? = some (.cells vs e fr) ∧ nofz fr vs.size ∧ j ≤ vs.size
 tinj : ∀ i i' k j j' : Nat, c.T[i]? = some (some (k, j)) → c.T[i']? = some (some (k, j')) → i = i'
 okn : ∀ k e, w.heap.size ≤ k → c.ok k e
 okm : ∀ k e e', c.ok k e → e' ≤ e → c.ok k e'
 okt : ∀ i k j : Nat, c.T[i]? = some (some (k, j)) → ∀ e, c.ok k e
 oko : ∀ b k : Nat, c.pn ≤ b → c.m[b]? = some (some k) → ∀ e, c.ok k e
 gl : Gl w c
def RelC (w : World) (c : Cx) (σ : AS) (a : Act) : Prop := Good w c σ.H σ.ts ∧ SlotsR w c σ a.tmps
theorem ObjC.lt {w : World} {c : Cx} {H : List AObj} {ts : List Bool} (g : Good w c H ts) {b k : Nat} (h : c.m[b]? = some (some k)) : k < w.heap.size := by
 have hb : b < H.length := by
   rw [← g.len]; exact (List.getElem?_eq_some_iff.1 h).1
 have ho := g.obj b H[b] (List.getElem?_eq_getElem hb)
 have key : ∃ o, w.heap[k]? = some o := by
   generalize H[b] = o at ho
   cases o with
   | row cs e =>
     obtain ⟨vs, fr, h2, _⟩ := ObjC.row ho h
     exact ⟨_, h2⟩
   | raw o =>
     obtain ⟨k', h1, h2⟩ := ho
     rw [h] at h1; cases h1; exact ⟨_, h2⟩
   | gone => rw [ObjC, h] at ho; cases ho
 obtain ⟨o, ho⟩ := key
 exact (Array.getElem?_eq_some_iff.1 ho).1
theorem Good.mlt {w : World} {c : Cx} {H : List AObj} {ts : List Bool} (g : Good w c H ts) {k : Nat} (h : some k ∈ c.m) : k < w.heap.size := by
 obtain ⟨i, hi⟩ := List.mem_iff_getElem?.1 h
 exact ObjC.lt g hi
theorem Good.tlt {w : World} {c : Cx} {H : List AObj} {ts : List Bool} (g : Good w c H ts) {i k j : Nat} (h : c.T[i]? = some (some (k, j))) : k < w.heap.size := by
 obtain ⟨_, vs, e, fr, h1, _⟩ := g.tok i k j h
 exact (Array.getElem?_eq_some_iff.1 h1).1
theorem Good.ext {w w' : World} {c : Cx} {H : List AObj} {ts : List Bool} (g : Good w c H ts) (x : Ext w c w' c)
   (hb : ∀ b k : Nat, c.m[b]? = some (some k) → w'.heap[k]? = w.heap[k]?) : Good w' c H ts where
 len := g.len
 inj := g.inj
 obj := fun b o h => by
   exact (g.obj b o h).pass x (fun k hk => ⟨hk, hb b k hk⟩) id
 tl := g.tl
 tal := g.tal
 tdead := g.tdead
 tok := fun i k j h => by
   obtain ⟨h1, vs, e, fr, h2, h3⟩ := g.tok i k j h
   exact ⟨h1, vs, e, fr, ((x.stay i k j (List.getElem?_eq_some_iff.1 h).1 h).2).trans h2, h3⟩
 tinj := g.tinj
 okn := fun k e h => g.okn k e (Nat.le_trans x.size h)
 okm := g.okm
 okt := g.okt
 oko := g.oko
 gl := g.gl.ext x
theorem SlotsR.ext {w w' : World} {c c' : Cx} {σ : AS} {tmps : Array Value} (h : SlotsR w c σ tmps) (x : Ext w c w' c') : SlotsR w' c' σ tmps :=
 ⟨h.1, fun t p hl hn => let ⟨v, h1, h2⟩ := h.2 t p hl hn; ⟨v, h1, h2.ext x⟩⟩
theorem zr9 {w : World} {c : Cx} (v : Value) : VR w c .dead v := by simp only [VR]
theorem z4f {w : World} {c : Cx} {v : Value} (h : plain v = true) : VR w c (.val v) v := by simp only [VR]; exact ⟨trivial, h⟩
theorem z1oc {w : World} {c : Cx} (v : Value) : VR w c (ofV v) v := by
 unfold ofV
 split <;> first | (exact z4f rfl) | (exact zr9 _) | skip
 · simp only [VR]; exact .inl ⟨trivial, trivial, trivial, rfl⟩
 · simp only [VR]; exact ⟨#[], rfl, rfl, trivial⟩
 · simp only [VR]; exact ⟨#[], rfl, rfl, trivial⟩
theorem SlotsR.eval {w : World} {c : Cx} {σ : AS} {a : Act} (h : SlotsR w c σ a.tmps) (x : Operand) : VR w c (σ.eval x) (a.eval x) := by
 cases x with
 | tmp t =>
   simp only [AS.eval, AS.get, Act.eval]
   cases hb : Nat.blt t σ.n with
   | false => exact zr9 _
   | true =>
     have hn : t < σ.n := Nat.blt_eq.mp hb
     simp only [cond_true]
     cases hl : look σ.slots t with
     | none => exact zr9 _
     | some p =>
       obtain ⟨v, h1, h2⟩ := h.2 t p hl hn
       have : a.tmps.getD t undef = v := by simp [Array.getD_eq_getD_getElem?, h1]
       rw [this]; exact h2
 | const v => exact z1oc v
 | global g => exact zr9 _
 | func f => simp only [AS.eval, Act.eval, VR]; exact ⟨#[], rfl, rfl, trivial⟩
theorem SlotsR.put {w : World} {c : Cx} {σ : AS} {a : Act} (h : SlotsR w c σ a.tmps) (d : Option Nat) {p : PV} {v : Value} (hv : VR w c p v) :
   SlotsR w c (σ.put d p) (a.put d v).tmps := by
 cases d with
 | none => exact h
 | some d =>
   refine ⟨by simp only [Act.put, AS.put, Array.size_setIfInBounds]; exact h.1, fun t q hl hn => ?_⟩
   simp only [AS.put, look] at hl hn
   simp only [Act.put]
   by_cases e : d = t
   · subst e
     simp only [Nat.beq_refl, cond_true, Option.some.injEq] at hl
     subst hl
     exact ⟨v, by rw [Array.getElem?_setIfInBounds_self_of_lt (by rw [h.1]; exact hn)], hv⟩
   · have hne : Nat.beq d t = false := by
       cases hb : Nat.beq d t with
       | false => rfl
       | true => exact absurd (Nat.eq_of_beq_eq_true hb) e
     rw [hne] at hl
     simp only [cond_false] at hl
     obtain ⟨u, h1, h2⟩ := h.2 t q hl hn
     exact ⟨u, by rw [Array.getElem?_setIfInBounds_ne e]; exact h1, h2⟩
def QStep (P : Program) (o : Oper) (σ : AS) (p : PV) : Prop :=
 ∀ c a w (K : Act → World → Prop) Q, RelC w c σ a →
   (∀ v w', VR w' c p v → Good w' c σ.H σ.ts → Ext w c w' c → K (a.put o.dst v) w') → o.wp P a w K Q
def Step (P : Program) (o : Oper) (σ : AS) (N : AS → Prop) : Prop :=
 ∀ c a w (K : Act → World → Prop) Q, RelC w c σ a →
   (∀ c' a' w' σ', N σ' → RelC w' c' σ' a' → Ext w c w' c' → a'.defers = a.defers → K a' w') → o.wp P a w K Q
theorem Act.put_defers' (a : Act) (d : Option Nat) (v : Value) : (a.put d v).defers = a.defers := by cases d <;> rfl
theorem QStep.step {P : Program} {o : Oper} {σ : AS} {p : PV} {N : AS → Prop} (h : QStep P o σ p) (hN : N (σ.put o.dst p)) : Step P o σ N := by
 intro c a w K Q hr hK
 refine h c a w K Q hr (fun v w' hv hg hx => hK c _ w' _ hN ⟨?_, ?_⟩ hx (Act.put_defers' _ _ _))
 · cases ho : o.dst <;> simpa [AS.put] using hg
 · exact (hr.2.ext hx).put o.dst hv
def z5g (ops : Array Oper) (σ : AS) (o : Oper) : Option Bool :=
 match o.guard with
 | none => some true
 | some (j, want) =>
   match (ops[j]?).bind (·.dst) with
   | none => some false
   | some d => match σ.get d with
     | .val (.bool b) => some (b == want)
     | .tup _ => some false
     | _ => none
theorem zoa {w : World} {c : Cx} : VR w c (.tup []) undef := by
 simp only [VR]; exact ⟨#[], rfl, rfl, trivial⟩
theorem z2p {w : World} {c : Cx} {σ : AS} {a : Act} {ops : Array Oper} {o : Oper} {g : Bool} (h : SlotsR w c σ a.tmps)
   (hg : z5g ops σ o = some g) : Region.wanted o (yielded ops a.tmps) = g := by
 unfold z5g at hg
 unfold Region.wanted yielded
 cases ho : o.guard with
 | none => rw [ho] at hg; cases hg; rfl
 | some jw =>
   obtain ⟨j, want⟩ := jw
   rw [ho] at hg
   simp only at hg ⊢
   cases hd : (ops[j]?).bind (·.dst) with
   | none =>
     rw [hd] at hg; cases hg
     rfl
   | some d =>
     rw [hd] at hg
     simp only [Option.bind_some] at hg ⊢
     have he := h.eval (.tmp d)
     simp only [AS.eval] at he
     cases hq : σ.get d <;> rw [hq] at hg <;> first | (cases hg; done) | skip
     case tup cs =>
       cases hg
       rw [hq] at he
       simp only [VR] at he
       obtain ⟨cv, he, _⟩ := he
       simp only [Act.eval, Array.getD_eq_getD_getElem?] at he
       cases hs : a.tmps[d]? with
       | none => simp
       | some u =>
         rw [hs] at he
         simp at he
         subst he
         simp
     rename_i v
     cases v <;> try (cases hg)
     rename_i b
     rw [hq] at he
     simp only [VR] at he
     have hdn : d < σ.n := by
       cases hb : Nat.blt d σ.n with
       | true => exact Nat.blt_eq.mp hb
       | false => simp [AS.get, hb] at hq
     have hs : a.tmps[d]? = some (.bool b) := by
       have hlt : d < a.tmps.size := by rw [h.1]; exact hdn
       have := he.1
       simp only [Act.eval, Array.getD_eq_getD_getElem?, Array.getElem?_eq_getElem hlt, Option.getD_some] at this
       rw [Array.getElem?_eq_getElem hlt, this]
     rw [hs]
     cases b <;> cases want <;> rfl
def Runs (P : Program) (ops : Array Oper) : List Nat → AS → (AS → Prop) → Prop
 | [], σ, N => N σ
 | i :: r, σ, N => ∃ o g, ops[i]? = some o ∧ z5g ops σ o = some g ∧
     if g = true then Step P o σ (fun σ' => Runs P ops r σ' N) else Runs P ops r (σ.put o.dst (.tup [])) N
def AW (P : Program) (x : Code) (σ : AS) (Q : Exit → AS → Prop) : Prop :=
 ∀ c a w (Q' : Exit → Act → World → Prop), RelC w c σ a →
   (∀ e c' a' w' σ', Q e σ' → RelC w' c' σ' a' → Ext w c w' c' → a'.defers = a.defers → Q' e a' w') → x.wp P Q' a w
theorem z1l8 {P : Program} {ops : Array Oper} {N : AS → Prop} (l : List Nat) : ∀ {σ : AS} {c : Cx} {a : Act} {w : World} {Q' : Exit → Act → World → Prop},
   Runs P ops l σ N → RelC w c σ a →
   (∀ c' a' w' σ', N σ' → RelC w' c' σ' a' → Ext w c w' c' → a'.defers = a.defers → Q' .normal a' w') → wpOps P ops Q' l a w := by
 induction l with
 | nil => exact fun h hr hK => hK _ _ _ _ h hr (Ext.refl _ _) rfl
 | cons i r ih =>
   intro σ c a w Q' h hr hK
   obtain ⟨o, g, ho, hg, h⟩ := h
   simp only [wpOps, ho]
   rw [z2p hr.2 hg]
   cases g with
   | true =>
     simp only [if_true] at h ⊢
     refine .inl (h c a w _ Q' hr fun c' a' w' σ' hN hr' hx hd => ?_)
     exact ih hN hr' fun c2 a2 w2 σ2 hN2 hr2 hx2 hd2 => hK c2 a2 w2 σ2 hN2 hr2 (hx.trans hx2) (hd2.trans hd)
   | false =>
     simp only [Bool.false_eq_true, if_false] at h ⊢
     refine ih h ⟨?_, hr.2.put o.dst zoa⟩ fun c2 a2 w2 σ2 hN2 hr2 hx2 hd2 => hK c2 a2 w2 σ2 hN2 hr2 hx2 (hd2.trans (Act.put_defers' _ _ _))
     have := hr.1
     cases o.dst <;> simpa [AS.put] using this
def thn (N : AS → Prop) (Q : Exit → AS → Prop) : Exit → AS → Prop
 | .normal, σ => N σ
 | e, σ => Q e σ
theorem AW.mono {P : Program} {x : Code} {σ : AS} {Q R : Exit → AS → Prop} (h : AW P x σ Q) (hq : ∀ e σ, Q e σ → R e σ) : AW P x σ R :=
 fun c a w Q' hr hK => h c a w Q' hr fun e c' a' w' σ' hQ => hK e c' a' w' σ' (hq _ _ hQ)
theorem AW.seq {P : Program} {x y : Code} {σ : AS} {Q : Exit → AS → Prop} (h : AW P x σ (thn (fun σ' => AW P y σ' Q) Q)) : AW P (.seq x y) σ Q := by
 intro c a w Q' hr hK
 refine wp_seq (h c a w _ hr fun e c' a' w' σ' hQ hr' hx hd => ?_)
 cases e <;> first | exact hK _ c' a' w' σ' hQ hr' hx hd | skip
 exact hQ c' a' w' _ hr' fun e2 c2 a2 w2 σ2 hQ2 hr2 hx2 hd2 => hK e2 c2 a2 w2 σ2 hQ2 hr2 (hx.trans hx2) (hd2.trans hd)
theorem AW.region {P : Program} {id : Nat} {ops : Array Oper} {σ : AS} {Q : Exit → AS → Prop} (h : Runs P ops (List.range ops.size) σ (Q .normal)) :
   AW P (.region id ops false) σ Q :=
 fun _ _ _ _ hr hK => wp_region (z1l8 _ h hr fun c' a' w' σ' hN hr' hx hd => hK .normal c' a' w' σ' hN hr' hx hd)
theorem AW.skip {P : Program} {σ : AS} {Q : Exit → AS → Prop} (h : Q .normal σ) : AW P .skip σ Q :=
 fun c a w _ hr hK => wp_skip (hK .normal c a w σ h hr (Ext.refl _ _) rfl)
theorem AW.label {P : Program} {l : Nat} {σ : AS} {Q : Exit → AS → Prop} (h : Q .normal σ) : AW P (.label l) σ Q :=
 fun c a w _ hr hK => wp_label (hK .normal c a w σ h hr (Ext.refl _ _) rfl)
theorem AW.ret {P : Program} {σ : AS} {Q : Exit → AS → Prop} (h : Q .ret σ) : AW P .ret σ Q :=
 fun c a w _ hr hK => wp_ret (hK .ret c a w σ h hr (Ext.refl _ _) rfl)
theorem AW.exit {P : Program} {id : Nat} {σ : AS} {Q : Exit → AS → Prop} (h : Q (.exit id) σ) : AW P (.exit id) σ Q :=
 fun c a w _ hr hK => wp_exit (hK (.exit id) c a w σ h hr (Ext.refl _ _) rfl)
theorem AW.cond {P : Program} {x : Operand} {t e : Code} {σ : AS} {Q : Exit → AS → Prop} {b : Bool} (hc : σ.eval x = .val (.bool b))
   (h : AW P (if b then t else e) σ Q) : AW P (.cond x t e) σ Q := by
 intro c a w Q' hr hK
 have he := hr.2.eval x
 rw [hc] at he
 simp only [VR] at he
 exact wp_cond he.1 (h c a w Q' hr hK)
def inBlk (id : Nat) (Q : Exit → AS → Prop) : Exit → AS → Prop
 | .exit id', σ => bif Nat.beq id' id then Q .normal σ else Q (.exit id') σ
 | e, σ => Q e σ
theorem AW.block {P : Program} {id : Nat} {x : Code} {σ : AS} {Q : Exit → AS → Prop} (h : AW P x σ (inBlk id Q)) : AW P (.block id x) σ Q := by
 intro c a w Q' hr hK
 refine wp_block (h c a w _ hr fun e c' a' w' σ' hQ hr' hx hd => ?_)
 cases e with
 | exit id' =>
   simp only [inBlk] at hQ
   simp only [Exit.inBlock]
   split
   · rename_i e
     have : Nat.beq id' id = true := by rw [e]; exact Nat.beq_refl id
     rw [this] at hQ; exact hK _ c' a' w' σ' hQ hr' hx hd
   · rename_i e
     have : Nat.beq id' id = false := by
       cases hb : Nat.beq id' id with
       | false => rfl
       | true => exact absurd (Nat.eq_of_beq_eq_true hb) e
     rw [this] at hQ; exact hK _ c' a' w' σ' hQ hr' hx hd
 | _ => exact hK _ c' a' w' σ' hQ hr' hx hd
theorem AW.loop {P : Program} {x : Code} {σ : AS} {Q : Exit → AS → Prop} {S : Type} (I : S → AS → Prop) (μ : S → Nat) (s : S) (h0 : I s σ)
   (hr : ∀ s σ, I s σ → AW P x σ (thn (fun σ' => ∃ s', I s' σ' ∧ μ s' < μ s) Q)) : AW P (.loop x) σ Q := by
 intro c a w Q' hrel hK
 have key : ∀ n s σ (c' : Cx) a' w', μ s = n → I s σ → RelC w' c' σ a' → Ext w c w' c' → a'.defers = a.defers → ∀ b k cs,
     ∃ e a2 w2, Q' e a2 w2 ∧ Arrives P (lone (b.at a' (.code x :: .inLoop x :: k)) cs w') b k cs e a2 w2 := by
   intro n
   induction n using Nat.strongRecOn with
   | _ n ih =>
     intro s σ c' a' w' hn hI hrel' hx hd b k cs
     have hround := hr s σ hI c' a' w'
       (Exit.then (fun a2 w2 => ∃ s' σ2 c2, I s' σ2 ∧ RelC w2 c2 σ2 a2 ∧ Ext w c w2 c2 ∧ a2.defers = a.defers ∧ μ s' < n) Q') hrel' (fun e c2 a2 w2 σ2 hQ hr2 hx2 hd2 => by
       cases e with
       | normal =>
         obtain ⟨s', hI', hlt⟩ := hQ
         exact ⟨s', σ2, c2, hI', hr2, hx.trans hx2, hd2.trans hd, hn ▸ hlt⟩
       | exit id => exact hK _ c2 a2 w2 σ2 hQ hr2 (hx.trans hx2) (hd2.trans hd)
       | goto l => exact hK _ c2 a2 w2 σ2 hQ hr2 (hx.trans hx2) (hd2.trans hd)
       | ret => exact hK _ c2 a2 w2 σ2 hQ hr2 (hx.trans hx2) (hd2.trans hd)
       | panic ch => exact hK _ c2 a2 w2 σ2 hQ hr2 (hx.trans hx2) (hd2.trans hd)
       | outgrown => exact hK _ c2 a2 w2 σ2 hQ hr2 (hx.trans hx2) (hd2.trans hd))
     obtain ⟨e, a1, w1, hq, harr⟩ := hround b (.inLoop x :: k) cs
     cases e with
     | normal =>
       obtain ⟨s', σ2, c2, hI', hr2, hx2, hd2, hlt⟩ := hq
       obtain ⟨e2, a2, w2, hq2, harr2⟩ := ih (μ s') hlt s' σ2 c2 a1 w1 rfl hI' hr2 hx2 hd2 b k cs
       exact ⟨e2, a2, w2, hq2, .of_steps (Steps.trans harr (.one step_inLoop)) harr2⟩
     | exit id => exact ⟨_, a1, w1, hq, .pass (x := .inLoop x) rfl (fun _ _ => .inl (by simp)) harr⟩
     | goto l => exact ⟨_, a1, w1, hq, .pass (x := .inLoop x) rfl (fun _ _ => .inl (by simp)) harr⟩
     | ret => exact ⟨_, a1, w1, hq, .pass (x := .inLoop x) rfl (fun _ _ => .inl (by simp)) harr⟩
     | panic ch => exact ⟨_, a1, w1, hq, .pass (x := .inLoop x) rfl (fun _ _ => .inl (by simp)) harr⟩
     | outgrown => exact ⟨_, a1, w1, hq, .pass (x := .inLoop x) rfl (fun _ _ => .inl (by simp)) harr⟩
 intro b k cs
 obtain ⟨e, a2, w2, hq, harr⟩ := key _ s σ c a w rfl h0 hrel (Ext.refl _ _) rfl b k cs
 exact ⟨e, a2, w2, hq, .of_steps (.one step_loop) harr⟩
end Go.Ab
namespace Go.Ab
def grow (w : World) (o : Obj) : World := { w with heap := w.heap.push o }
theorem zhw (w : World) (o : Obj) (k : Nat) (h : k < w.heap.size) : (grow w o).heap[k]? = w.heap[k]? := by
 show (w.heap.push o)[k]? = _
 rw [Array.getElem?_push, if_neg (by omega)]
theorem zoi (w : World) (o : Obj) : (grow w o).heap[w.heap.size]? = some o := by
 show (w.heap.push o)[w.heap.size]? = _
 simp
theorem z6h {w w' : World} {a : Addr} (h : w'.heap[a.block]? = w.heap[a.block]?) : w'.cell? a = w.cell? a := by simp [World.cell?, h]
theorem zhf {w : World} {k off : Nat} {vs : Array Value} {e : TypeId} {fr : Nat × Nat} (h : w.heap[k]? = some (.cells vs e fr)) :
   w.cell? ⟨k, off, none⟩ = vs[off]? := by simp [World.cell?, h]
theorem Ext.of_grow {w w' : World} {c : Cx} (m' : List (Option Nat)) (hos : w'.os = w.os) (htape : w'.tape = w.tape) (hout : w'.output = w.output)
   (hsize : w.heap.size ≤ w'.heap.size) (hb : ∀ k, k < w.heap.size → w'.heap[k]? = w.heap[k]?)
   (ids : ∀ b k : Nat, c.m[b]? = some (some k) → m'[b]? = some (some k))
   (new : ∀ k : Nat, some k ∈ m' → some k ∈ c.m ∨ w.heap.size ≤ k) (g : ∀ i k j : Nat, c.T[i]? = some (some (k, j)) → k < w.heap.size) :
   Ext w c w' { c with m := m' } where
 os := hos
 tape := htape
 output := hout
 size := hsize
 ids := ids
 new := new
 blocks := fun k hk _ _ => hb k hk
 cells := fun k hk _ off v _ hv => by rw [z6h (hb k hk)]; exact hv
 toks := fun i k j h => .inr ⟨i, j, h, Nat.le_refl _⟩
 stay := fun i k j _ h => ⟨h, hb k (g i k j h)⟩
 tlen := Nat.le_refl _
 room := fun k vs e fr h => ⟨vs, fr, (hb k (Array.getElem?_eq_some_iff.1 h).1).trans h, rfl⟩
 ok := rfl
 pn := rfl
theorem z14n {w w' : World} {c : Cx} {H : List AObj} {ts : List Bool} (g : Good w c H ts) (hos : w'.os = w.os) (htape : w'.tape = w.tape)
   (hout : w'.output = w.output) (hsize : w.heap.size ≤ w'.heap.size) (hb : ∀ k, k < w.heap.size → w'.heap[k]? = w.heap[k]?) :
   Good w' c H ts ∧ Ext w c w' c := by
 have x : Ext w c w' c := Ext.of_grow c.m hos htape hout hsize hb (fun _ _ h => h) (fun _ h => .inl h) (fun i k j h => g.tlt h)
 exact ⟨g.ext x (fun b k h => hb k (ObjC.lt g h)), x⟩
theorem z16o {w : World} {c : Cx} {H : List AObj} {ts : List Bool} (g : Good w c H ts) (o : Obj) : Good (grow w o) c H ts ∧ Ext w c (grow w o) c :=
 z14n g rfl rfl rfl (by simp [grow]) (fun k hk => zhw w o k hk)
theorem zhm {w : World} {c : Cx} {H : List AObj} {ts : List Bool} (g : Good w c H ts) (n : Nat) :
   Good { w with drawn := n } c H ts ∧ Ext w c { w with drawn := n } c :=
 z14n g rfl rfl rfl (Nat.le_refl _) (fun _ _ => rfl)
theorem Foot.new {w w' : World} {c : Cx} {H : List AObj} {ts : List Bool} (g : Good w c H ts) (hs : w.heap.size < w'.heap.size) (k off n : Nat)
   (hk : k = w.heap.size) : Foot w' c ⟨k, off, none⟩ n := by
 subst hk
 exact .inr ⟨rfl, hs, fun h => absurd (g.mlt h) (Nat.lt_irrefl _), fun i j h => absurd (g.tlt h) (Nat.lt_irrefl _), g.okn _ _ (Nat.le_refl _)⟩
theorem z1ne {w : World} {c : Cx} {H : List AObj} {ts : List Bool} (g : Good w c H ts) {cs : List PV} {vs : Array Value} {e : TypeId} {fr : Nat × Nat}
   (hn : cs.length ≤ vs.size) (hf : nofz fr vs.size) (hlf : Leafs cs) (hv : VRs w c cs (fun i => vs[i]?)) :
   Good (grow w (.cells vs e fr)) { c with m := c.m ++ [some w.heap.size] } (H ++ [.row cs e]) ts ∧
     Ext w c (grow w (.cells vs e fr)) { c with m := c.m ++ [some w.heap.size] } := by
 have hids : ∀ b k : Nat, c.m[b]? = some (some k) → (c.m ++ [some w.heap.size])[b]? = some (some k) := fun b k h => by
   rw [List.getElem?_append_left (List.getElem?_eq_some_iff.1 h).1]; exact h
 have x : Ext w c (grow w (.cells vs e fr)) { c with m := c.m ++ [some w.heap.size] } := by
   refine Ext.of_grow _ rfl rfl rfl (by simp [grow]) (fun k hk => zhw w _ k hk) hids (fun k h => ?_) (fun i k j h => g.tlt h)
   rcases List.mem_append.1 h with h | h
   · exact .inl h
   · simp at h; exact .inr (Nat.le_of_eq h.symm)
 have back : ∀ b k : Nat, (c.m ++ [some w.heap.size])[b]? = some (some k) → c.m[b]? = some (some k) ∨ (b = c.m.length ∧ k = w.heap.size) := fun b k h => by
   by_cases hb : b < c.m.length
   · rw [List.getElem?_append_left hb] at h; exact .inl h
   · rw [List.getElem?_append_right (Nat.le_of_not_lt hb)] at h
     have : b - c.m.length = 0 := by
       rcases Nat.eq_zero_or_pos (b - c.m.length) with e | e
       · exact e
       · rw [List.getElem?_eq_none (by simp; omega)] at h; cases h
     rw [this] at h; simp at h
     exact .inr ⟨by omega, h.symm⟩
 refine ⟨⟨by simp [g.len], ?_, ?_, g.tl, g.tal, g.tdead, ?_, g.tinj, fun k e h => g.okn k e (Nat.le_trans x.size h), g.okm, g.okt, fun b k hb hk e => ?_, g.gl.ext x⟩, x⟩
 · intro i j k hi hj
   rcases back i k hi with hi | ⟨ei, ek⟩ <;> rcases back j k hj with hj | ⟨ej, ek'⟩
   · exact g.inj i j k hi hj
   · have := ObjC.lt g hi; omega
   · have := ObjC.lt g hj; omega
   · omega
 · intro b o h
   by_cases hb : b < H.length
   · rw [List.getElem?_append_left hb] at h
     refine (g.obj b o h).pass x (fun k h1 => ⟨x.ids _ _ h1, zhw w _ k (ObjC.lt g h1)⟩) fun ho => ?_
     show (c.m ++ [some w.heap.size])[b]? = some none
     rw [List.getElem?_append_left (by rw [g.len]; exact hb)]; exact ho
   · rw [List.getElem?_append_right (Nat.le_of_not_lt hb)] at h
     have hb0 : b - H.length = 0 := by
       rcases Nat.eq_zero_or_pos (b - H.length) with e | e
       · exact e
       · rw [List.getElem?_eq_none (by simp; omega)] at h; cases h
     rw [hb0] at h
     simp at h
     subst h
     refine .inr ⟨w.heap.size, vs, fr, ?_, zoi w _, hf, hn, hlf, VRs.ext x cs (fun _ _ _ e => e) hv⟩
     show (c.m ++ [some w.heap.size])[b]? = _
     rw [List.getElem?_append_right (by rw [g.len]; omega), g.len, hb0]; rfl
 · intro i k j h
   obtain ⟨h1, vs', e', fr', h2, h3⟩ := g.tok i k j h
   refine ⟨fun hm => ?_, vs', e', fr', (zhw w _ k (g.tlt h)).trans h2, h3⟩
   rcases List.mem_append.1 hm with hm | hm
   · exact h1 hm
   · simp at hm; have := g.tlt h; omega
 · rcases back b k hk with hk | ⟨_, rfl⟩
   · exact g.oko b k hb hk e
   · exact g.okn _ _ (Nat.le_refl _)
theorem z16z (w : World) (k off : Nat) (v : Value) {vs : Array Value} {e : TypeId} {fr : Nat × Nat} (h : w.heap[k]? = some (.cells vs e fr)) :
   (w.setCell ⟨k, off, none⟩ v).heap[k]? = some (.cells (vs.setIfInBounds off v) e fr) := by
 simp [World.setCell, Array.getElem?_modify, h]
theorem zk7 (w : World) (k off k' : Nat) (v : Value) (h : k' ≠ k) : (w.setCell ⟨k, off, none⟩ v).heap[k']? = w.heap[k']? := by
 simp only [World.setCell, Array.getElem?_modify]
 rw [if_neg (by omega)]
theorem z1hd (w : World) (a : Addr) (v : Value) : (w.setCell a v).heap.size = w.heap.size := by simp [World.setCell]
theorem z0s {w : World} {c : Cx} : ∀ {cs : List PV} {f : Nat → Option Value} {i : Nat} {p : PV}, VRs w c cs f → cs[i]? = some p → ∃ v, f i = some v ∧ VR w c p v
 | [], _, _, _, _, h => by simp at h
 | q :: cs, f, 0, p, hv, h => by
   simp only [VRs] at hv
   simp at h; subst h
   exact hv.1
 | q :: cs, f, i + 1, p, hv, h => by
   simp only [VRs] at hv
   exact z0s (cs := cs) (f := fun i => f (i + 1)) hv.2 (by simpa using h)
theorem z2d {w : World} {c : Cx} : ∀ {cs : List PV} {f : Nat → Option Value}, (∀ i p, cs[i]? = some p → ∃ v, f i = some v ∧ VR w c p v) → VRs w c cs f
 | [], _, _ => by simp only [VRs]
 | q :: cs, f, h => by
   simp only [VRs]
   exact ⟨h 0 q rfl, z2d fun i p hp => h (i + 1) p (by simpa using hp)⟩
theorem z1qv {w : World} {c : Cx} {H : List AObj} {ts : List Bool} (g : Good w c H ts) {b off : Nat} {cs : List PV} {e : TypeId} (hb : H[b]? = some (.row cs e))
   {k : Nat} (hk : c.m[b]? = some (some k)) {p : PV} {v : Value} (hp : leaf p = true) (hv : VR w c p v) :
   Good (w.setCell ⟨k, off, none⟩ v) c (H.set b (.row (cs.set off p) e)) ts ∧ Ext w c (w.setCell ⟨k, off, none⟩ v) c := by
 obtain ⟨vs, fr, h2, hf, h3, hl, h4⟩ := (g.obj b _ hb).row hk
 have hmem : some k ∈ c.m := List.mem_iff_getElem?.2 ⟨b, hk⟩
 have x : Ext w c (w.setCell ⟨k, off, none⟩ v) c :=
   { os := rfl, tape := rfl, output := rfl, size := by rw [z1hd]; exact Nat.le_refl _
     ids := fun _ _ h => h, new := fun _ h => .inl h
     blocks := fun k' _ hm _ => zk7 w k off k' v (fun e => hm (e ▸ hmem))
     cells := fun k' _ hm off' v' _ hv' => by rw [z6h (zk7 w k off k' v (fun e => hm (e ▸ hmem)))]; exact hv'
     toks := fun i _ j h => .inr ⟨i, j, h, Nat.le_refl _⟩
     stay := fun i k' j _ h => ⟨h, zk7 w k off k' v (fun e => (g.tok i k' j h).1 (e ▸ hmem))⟩
     room := fun k' vs' e' fr' h => by
       by_cases hkk : k' = k
       · subst hkk
         rw [h2] at h; cases h
         exact ⟨_, _, z16z w k' off v h2, by simp⟩
       · exact ⟨vs', fr', (zk7 w k off k' v hkk).trans h, rfl⟩
     tlen := Nat.le_refl _, ok := rfl, pn := rfl }
 have hblt : b < H.length := (List.getElem?_eq_some_iff.1 hb).1
 refine ⟨⟨by simp [g.len], g.inj, ?_, g.tl, g.tal, g.tdead, ?_, g.tinj, fun k e h => g.okn k e (Nat.le_trans x.size h), g.okm, g.okt, g.oko, g.gl.ext x⟩, x⟩
 · intro b' o h
   by_cases hbb : b = b'
   · subst hbb
     rw [List.getElem?_set_self hblt] at h
     cases h
     refine .inr ⟨k, _, fr, hk, z16z w k off v h2, by simpa using hf, by simpa using h3, fun q hq => (List.mem_or_eq_of_mem_set hq).elim (hl q) (fun e => e ▸ hp), z2d fun i q hq => ?_⟩
     by_cases hi : off = i
     · subst hi
       have hlt : off < cs.length := by
         have := (List.getElem?_eq_some_iff.1 hq).1; simpa using this
       rw [List.getElem?_set_self hlt] at hq
       cases hq
       exact ⟨v, by rw [Array.getElem?_setIfInBounds_self_of_lt (by omega)], hv.ext x⟩
     · rw [List.getElem?_set_ne hi] at hq
       obtain ⟨u, hu, hr⟩ := z0s h4 hq
       exact ⟨u, by rw [Array.getElem?_setIfInBounds_ne hi]; exact hu, hr.ext x⟩
   · rw [List.getElem?_set_ne hbb] at h
     have hne : ∀ k', c.m[b']? = some (some k') → k' ≠ k := fun k' h' e => hbb (g.inj b b' k hk (e ▸ h'))
     exact (g.obj b' o h).pass x (fun k' h' => ⟨h', zk7 w k off k' v (hne k' h')⟩) id
 · intro i k' j h
   obtain ⟨h1', vs', e', fr', h2', h3'⟩ := g.tok i k' j h
   exact ⟨h1', vs', e', fr', (zk7 w k off k' v (fun e => h1' (e ▸ hmem))).trans h2', h3'⟩
def splice (cs : List PV) (off : Nat) (ps : List PV) : List PV := cs.take off ++ ps ++ cs.drop (off + ps.length)
theorem zv9 (cs : List PV) (off : Nat) : splice cs off [] = cs := by simp [splice]
theorem z1jk (cs : List PV) (off : Nat) (p : PV) (ps : List PV) (h : off + (ps.length + 1) ≤ cs.length) :
   splice (cs.set off p) (off + 1) ps = splice cs off (p :: ps) := by
 unfold splice
 have h1 : (cs.set off p).take (off + 1) = cs.take off ++ [p] := by
   rw [List.take_succ_eq_append_getElem (by simp; omega)]
   rw [List.take_set_of_le (Nat.le_refl _)]
   simp
 have h2 : (cs.set off p).drop (off + 1 + ps.length) = cs.drop (off + (p :: ps).length) := by
   rw [List.drop_set_of_lt (by omega)]
   simp [Nat.add_comm, Nat.add_left_comm]
 rw [h1, h2]
 simp
theorem z9w (cs : List PV) (off : Nat) (ps : List PV) (h : off + ps.length ≤ cs.length) : (splice cs off ps).length = cs.length := by
 simp [splice]; omega
theorem z7d (k off i : Nat) : Addr.add ⟨k, off, none⟩ i = ⟨k, off + i, none⟩ := by
 unfold Addr.add
 split
 · rename_i h; subst h; rfl
 · rfl
theorem z13t {w : World} {c : Cx} {p : PV} {v : Value} (h : leaf p = true) (hv : VR w c p v) : v.oneCell' = true := by
 cases p <;> simp only [leaf] at h <;> first | (cases h; done) | skip
 · simp only [VR] at hv; obtain ⟨rfl, hv⟩ := hv
   cases v <;> first | rfl | (simp only [plain] at hv; cases hv)
 · simp only [VR] at hv; obtain ⟨k, _, rfl⟩ := hv; rfl
 · simp only [VR] at hv; obtain ⟨k, rfl, _⟩ := hv; rfl
 · simp only [VR] at hv
   rcases hv with ⟨⟨_, rfl⟩, _⟩ | ⟨k, cap, off', _, rfl, _⟩ <;> rfl
 · simp only [VR] at hv
   rcases hv with ⟨rfl, _⟩ | ⟨a, cap, rfl, _⟩ <;> rfl
 · simp only [VR] at hv; obtain ⟨k, rfl, _⟩ := hv; rfl
 · simp only [VR] at hv; obtain ⟨k, rfl, _⟩ := hv; rfl
 · simp only [VR] at hv; exact hv
theorem zet {P : Program} : ∀ (us : List Value) (ps : List PV) {w : World} {c : Cx} {H : List AObj} {ts : List Bool} {b off i k : Nat} {cs : List PV} {e : TypeId},
   Good w c H ts → H[b]? = some (.row cs e) → c.m[b]? = some (some k) → us.length = ps.length → off + i + ps.length ≤ cs.length →
   Leafs ps → VRs w c ps (fun i => us[i]?) →
   ∃ w', (storeCells ⟨k, off, none⟩ us i).run P w = .ok () w' ∧ Good w' c (H.set b (.row (splice cs (off + i) ps) e)) ts ∧ Ext w c w' c
 | [], [], w, c, H, ts, b, off, i, k, cs, e, g, hb, hk, hl, hlen, ho, hv => by
   refine ⟨w, rfl, ?_, Ext.refl _ _⟩
   rw [zv9]
   have : H.set b (.row cs e) = H := by
     apply List.ext_getElem?
     intro j
     by_cases hj : b = j
     · subst hj; rw [List.getElem?_set_self (List.getElem?_eq_some_iff.1 hb).1, hb]
     · rw [List.getElem?_set_ne hj]
   rw [this]; exact g
 | u :: us, p :: ps, w, c, H, ts, b, off, i, k, cs, e, g, hb, hk, hl, hlen, ho, hv => by
   simp only [VRs] at hv
   obtain ⟨⟨u', hu', hup⟩, hvs⟩ := hv
   simp at hu'; subst hu'
   simp at hl hlen
   obtain ⟨vs, fr, h2, hf, h3, hl', h4⟩ := (g.obj b _ hb).row hk
   obtain ⟨g1, x1⟩ := z1qv g (off := off + i) hb hk (ho p (by simp)) hup
   have hlt : off + i < vs.size := by omega
   have hcell : w.cell? ⟨k, off + i, none⟩ = some vs[off + i] := by rw [zhf h2]; simp [hlt]
   have hfr : w.frozen? ⟨k, off + i, none⟩ = false := by
     simp only [World.frozen?, h2]
     have := hf.no (off + i) hlt
     simpa using this
   obtain ⟨w', hw', g', x'⟩ := zet us ps (w := w.setCell ⟨k, off + i, none⟩ u) (i := i + 1) (off := off) g1
     (by rw [List.getElem?_set_self (List.getElem?_eq_some_iff.1 hb).1]) hk hl (by simp; omega) (fun q hq => ho q (by simp [hq]))
     (VRs.ext x1 ps (fun _ _ _ e => by simpa using e) hvs)
   refine ⟨w', ?_, ?_, x1.trans x'⟩
   · have hone := z13t (ho p (by simp)) hup
     unfold storeCells
     rw [z7d, Sem.run_bind]
     have hst : (store ⟨k, off + i, none⟩ u : Sem Unit).run P w = .ok () (w.setCell ⟨k, off + i, none⟩ u) := by
       unfold store
       cases u <;> simp only [Value.oneCell'] at hone <;> first | (cases hone; done) | (simp only [Sem.run, hcell, hfr]; rfl)
     rw [hst]
     exact hw'
   · rw [List.set_set, ← Nat.add_assoc, z1jk _ _ _ _ (by omega)] at g'
     exact g'
 | [], _ :: _, _, _, _, _, _, _, _, _, _, _, _, _, _, hl, _, _, _ => by simp at hl
 | _ :: _, [], _, _, _, _, _, _, _, _, _, _, _, _, _, hl, _, _, _ => by simp at hl
end Go.Ab
namespace Go.Ab
theorem z9z {P : Program} {o : Oper} {a : Act} {w w' : World} {K : Act → World → Prop} {Q : Exit → Act → World → Prop} {v : Value}
   (h : (execOp a.eval o).run P w = .ok (.value v) w') (hK : K (a.put o.dst v) w') : o.wp P a w K Q := by
 unfold Oper.wp; rw [h]; exact hK
theorem z1qh {P : Program} {o : Oper} {a : Act} {w w' : World} {K : Act → World → Prop} {Q : Exit → Act → World → Prop}
   (h : (execOp a.eval o).run P w = .ok .skip w') (hK : K (a.put o.dst undef) w') : o.wp P a w K Q := by
 unfold Oper.wp; rw [h]; exact hK
theorem q_run {P : Program} {o : Oper} {σ : AS} {q : PV}
   (h : ∀ w c (a : Act), RelC w c σ a → ∃ v, (execOp a.eval o).run P w = .ok (.value v) w ∧ VR w c q v) : QStep P o σ q := by
 intro c a w K Q hr hK
 obtain ⟨v, h1, h2⟩ := h w c a hr
 exact z9z h1 (hK v w h2 hr.1 (Ext.refl _ _))
theorem zb0 {w : World} {c : Cx} {v u : Value} : VR w c (.val v) u ↔ u = v ∧ plain v = true := by simp only [VR]
theorem z0r {w : World} {c : Cx} {σ : AS} {a : Act} (h : SlotsR w c σ a.tmps) {x : Operand} {v : Value} (e : σ.eval x = .val v) : a.eval x = v := by
 have := h.eval x
 rw [e, zb0] at this
 exact this.1
theorem z1sa {P : Program} {o : Oper} {σ : AS} {x : Operand} {q : PV} (ho : o.op = .move x) (hx : σ.eval x = q) : QStep P o σ q :=
 q_run fun w c a hr => ⟨a.eval x, by simp [execOp, ho], hx ▸ hr.2.eval x⟩
theorem z1ow {P : Program} {o : Oper} {σ : AS} {x : Operand} {q : PV} (ho : o.op = .assign x) (hx : σ.eval x = q) : QStep P o σ q :=
 q_run fun w c a hr => ⟨a.eval x, by simp [execOp, ho], hx ▸ hr.2.eval x⟩
theorem z1c2 {P : Program} {o : Oper} {σ : AS} {x y z : Operand} {b : Bool} {q : PV} (ho : o.op = .pick x y z) (hx : σ.eval x = .val (.bool b))
   (hq : σ.eval (if b then y else z) = q) : QStep P o σ q :=
 q_run fun w c a hr => ⟨a.eval (if b then y else z), by
   have := z0r hr.2 hx
   cases b <;> simp [execOp, ho, this, asBool], hq ▸ hr.2.eval _⟩
def zsx (op : BinOp) (k : IntKind) (a b : Int) : Option Value :=
 match op with
 | .add => some (.int k (k.wrap (a + b)))
 | .sub => some (.int k (k.wrap (a - b)))
 | .mul => some (.int k (k.wrap (a * b)))
 | .eql => some (.bool (a == b))
 | .neq => some (.bool (a != b))
 | .lss => some (.bool (decide (a < b)))
 | .leq => some (.bool (decide (a ≤ b)))
 | .gtr => some (.bool (decide (a > b)))
 | .geq => some (.bool (decide (a ≥ b)))
 | .and => some (.int k (k.wrap (BitVec.ofInt k.bits a &&& BitVec.ofInt k.bits b).toNat))
 | .or => some (.int k (k.wrap (BitVec.ofInt k.bits a ||| BitVec.ofInt k.bits b).toNat))
 | .xor => some (.int k (k.wrap (BitVec.ofInt k.bits a ^^^ BitVec.ofInt k.bits b).toNat))
 | .andNot => some (.int k (k.wrap (BitVec.ofInt k.bits a &&& ~~~BitVec.ofInt k.bits b).toNat))
 | _ => none
theorem z6x {P : Program} {w : World} {op : BinOp} {t : TypeId} {x y : Operand} {a b : Value} (ha : ∀ cs, a ≠ .agg cs) (hn : a ≠ .nilIface) :
   (eqGuard op t x y a b).run P w = .ok () w := by
 unfold eqGuard
 cases a with
 | agg cs => exact absurd rfl (ha cs)
 | nilIface => exact absurd rfl hn
 | _ => cases op <;> rfl
theorem z1m4 {op : BinOp} {k : IntKind} {a b : Int} {v : Value} (h : zsx op k a b = some v) : plain v = true := by
 cases op <;> simp [zsx] at h <;> subst h <;> rfl
theorem q_bin {P : Program} {o : Oper} {σ : AS} {op : BinOp} {t yt : TypeId} {x y : Operand} {k : IntKind} {a b : Int} {v : Value} (ho : o.op = .binOp op t x y yt)
   (hx : σ.eval x = .val (.int k a)) (hy : σ.eval y = .val (.int k b)) (hv : zsx op k a b = some v) : QStep P o σ (.val v) :=
 q_run fun w c act hr => ⟨v, by
   have e1 := z0r hr.2 hx
   have e2 := z0r hr.2 hy
   simp only [execOp, ho, e1, e2, Sem.run_bind, z6x (P := P) (w := w) (op := op) (t := t) (x := x) (y := y) (a := .int k a) (b := .int k b) (by simp) (by simp), Result.andThen_ok]
   cases op <;> simp [zsx] at hv <;> subst hv <;> simp [binOp, Op.intArith, Op.intCmp, Op.intBits], z4f (z1m4 hv)⟩
theorem q_quo {P : Program} {o : Oper} {σ : AS} {t yt : TypeId} {x y : Operand} {k : IntKind} {a b : Int} (ho : o.op = .binOp .quo t x y yt)
   (hx : σ.eval x = .val (.int k a)) (hy : σ.eval y = .val (.int k b)) (hb : b ≠ 0) : QStep P o σ (.val (.int k (k.wrap (a.tdiv b)))) :=
 q_run fun w c act hr => ⟨_, by
   have e1 := z0r hr.2 hx
   have e2 := z0r hr.2 hy
   simp only [execOp, ho, e1, e2, Sem.run_bind, z6x (P := P) (w := w) (op := .quo) (t := t) (x := x) (y := y) (a := .int k a) (b := .int k b) (by simp) (by simp), Result.andThen_ok]
   simp [binOp, Op.intDiv, hb], z4f rfl⟩
theorem q_rem {P : Program} {o : Oper} {σ : AS} {t yt : TypeId} {x y : Operand} {k : IntKind} {a b : Int} (ho : o.op = .binOp .rem t x y yt)
   (hx : σ.eval x = .val (.int k a)) (hy : σ.eval y = .val (.int k b)) (hb : b ≠ 0) : QStep P o σ (.val (.int k (a.tmod b))) :=
 q_run fun w c act hr => ⟨_, by
   have e1 := z0r hr.2 hx
   have e2 := z0r hr.2 hy
   simp only [execOp, ho, e1, e2, Sem.run_bind, z6x (P := P) (w := w) (op := .rem) (t := t) (x := x) (y := y) (a := .int k a) (b := .int k b) (by simp) (by simp), Result.andThen_ok]
   simp [binOp, Op.intDiv, hb], z4f rfl⟩
theorem q_shl {P : Program} {o : Oper} {σ : AS} {t yt : TypeId} {x y : Operand} {k yk : IntKind} {a b : Int} (ho : o.op = .binOp .shl t x y yt)
   (hx : σ.eval x = .val (.int k a)) (hy : σ.eval y = .val (.int yk b)) (hb : ¬ b < 0) : QStep P o σ (.val (.int k (k.wrap (a * 2 ^ min b.toNat k.bits)))) :=
 q_run fun w c act hr => ⟨_, by
   have e1 := z0r hr.2 hx
   have e2 := z0r hr.2 hy
   simp only [execOp, ho, e1, e2, Sem.run_bind, z6x (P := P) (w := w) (op := .shl) (t := t) (x := x) (y := y) (a := .int k a) (b := .int yk b) (by simp) (by simp), Result.andThen_ok]
   simp [binOp, Op.shift, hb], z4f rfl⟩
theorem q_shr {P : Program} {o : Oper} {σ : AS} {t yt : TypeId} {x y : Operand} {k yk : IntKind} {a b : Int} (ho : o.op = .binOp .shr t x y yt)
   (hx : σ.eval x = .val (.int k a)) (hy : σ.eval y = .val (.int yk b)) (hb : ¬ b < 0) : QStep P o σ (.val (.int k (a.fdiv (2 ^ min b.toNat k.bits)))) :=
 q_run fun w c act hr => ⟨_, by
   have e1 := z0r hr.2 hx
   have e2 := z0r hr.2 hy
   simp only [execOp, ho, e1, e2, Sem.run_bind, z6x (P := P) (w := w) (op := .shr) (t := t) (x := x) (y := y) (a := .int k a) (b := .int yk b) (by simp) (by simp), Result.andThen_ok]
   simp [binOp, Op.shift, hb], z4f rfl⟩
def zlm (op : BinOp) (x y : ByteArray) : Option Value :=
 match op with
 | .eql => some (.bool (x.toList == y.toList))
 | .neq => some (.bool (!(x.toList == y.toList)))
 | .lss => some (.bool (Op.bytesLess x.toList y.toList))
 | .leq => some (.bool (Op.bytesLess x.toList y.toList || x.toList == y.toList))
 | .gtr => some (.bool (!(Op.bytesLess x.toList y.toList || x.toList == y.toList)))
 | .geq => some (.bool (!Op.bytesLess x.toList y.toList))
 | _ => none
theorem z1nq {op : BinOp} {a b : ByteArray} {v : Value} (h : zlm op a b = some v) : plain v = true := by
 cases op <;> simp [zlm] at h <;> subst h <;> rfl
theorem q_str {P : Program} {o : Oper} {σ : AS} {op : BinOp} {t yt : TypeId} {x y : Operand} {a b : ByteArray} {v : Value} (ho : o.op = .binOp op t x y yt)
   (hx : σ.eval x = .val (.string a)) (hy : σ.eval y = .val (.string b)) (hv : zlm op a b = some v) : QStep P o σ (.val v) :=
 q_run fun w c act hr => ⟨v, by
   have e1 := z0r hr.2 hx
   have e2 := z0r hr.2 hy
   simp only [execOp, ho, e1, e2, Sem.run_bind, z6x (P := P) (w := w) (op := op) (t := t) (x := x) (y := y) (a := .string a) (b := .string b) (by simp) (by simp), Result.andThen_ok]
   cases op <;> simp [zlm] at hv <;> subst hv <;> simp [binOp, Op.stringOp], z4f (z1nq hv)⟩
theorem q_cat {P : Program} {o : Oper} {σ : AS} {t yt : TypeId} {x y : Operand} {a b : ByteArray} (ho : o.op = .binOp .add t x y yt)
   (hx : σ.eval x = .val (.string a)) (hy : σ.eval y = .val (.string b)) (hs : a.size + b.size ≤ 9223372036854775807) : QStep P o σ (.val (.string (a ++ b))) :=
 q_run fun w c act hr => ⟨_, by
   have e1 := z0r hr.2 hx
   have e2 := z0r hr.2 hy
   have hm : ¬ (((a.size + b.size : Nat) : Int) > IntKind.i64.max) := by
     have : IntKind.i64.max = 9223372036854775807 := by decide
     omega
   simp only [execOp, ho, e1, e2, Sem.run_bind, z6x (P := P) (w := w) (op := .add) (t := t) (x := x) (y := y) (a := .string a) (b := .string b) (by simp) (by simp), Result.andThen_ok]
   simp only [binOp, Op.stringOp]
   rw [if_neg hm]; rfl, z4f rfl⟩
theorem run_underlying {P : Program} {w : World} {t : TypeId} {d : TypeDesc} (h : P.underlying t = some d) : (underlying t).run P w = .ok d w := by
 simp [underlying, h]
theorem z17s {P : Program} {w : World} {t : TypeId} (n : Nat) (a b : Bool) (ht : P.underlying t = some .bool) :
   (Op.equalIn (n + 1) t (.bool a) (.bool b)).run P w = .ok (a == b) w := by
 unfold Op.equalIn
 rw [Sem.run_bind, run_underlying ht]
 rfl
theorem z1eu {P : Program} {w w' : World} {t : TypeId} {a b : Value} {r : Bool} (h : (Op.equalIn (9999 + 1) t a b).run P w = .ok r w') :
   (Op.equal t a b).run P w = .ok r w' := h
theorem z1ok {t : TypeId} {a b : Bool} : binOp .eql t (.bool a) (.bool b) = (do pure (.bool (← Op.equal t (.bool a) (.bool b)))) := rfl
theorem z1mk {t : TypeId} {a b : Bool} : binOp .neq t (.bool a) (.bool b) = (do pure (.bool (!(← Op.equal t (.bool a) (.bool b))))) := rfl
theorem z1qk {P : Program} {o : Oper} {σ : AS} {t yt : TypeId} {x y : Operand} {a b : Bool} (ho : o.op = .binOp .eql t x y yt) (ht : P.underlying t = some .bool)
   (hx : σ.eval x = .val (.bool a)) (hy : σ.eval y = .val (.bool b)) : QStep P o σ (.val (.bool (a == b))) :=
 q_run fun w c act hr => ⟨_, by
   have e1 := z0r hr.2 hx
   have e2 := z0r hr.2 hy
   simp only [execOp, ho, e1, e2, Sem.run_bind, z6x (P := P) (w := w) (op := .eql) (t := t) (x := x) (y := y) (a := .bool a) (b := .bool b) (by simp) (by simp), Result.andThen_ok]
   rw [z1ok, Sem.run_bind, z1eu (z17s 9999 a b ht)]; rfl, z4f rfl⟩
theorem z1oz {P : Program} {o : Oper} {σ : AS} {t yt : TypeId} {x y : Operand} {a b : Bool} (ho : o.op = .binOp .neq t x y yt) (ht : P.underlying t = some .bool)
   (hx : σ.eval x = .val (.bool a)) (hy : σ.eval y = .val (.bool b)) : QStep P o σ (.val (.bool (!(a == b)))) :=
 q_run fun w c act hr => ⟨_, by
   have e1 := z0r hr.2 hx
   have e2 := z0r hr.2 hy
   simp only [execOp, ho, e1, e2, Sem.run_bind, z6x (P := P) (w := w) (op := .neq) (t := t) (x := x) (y := y) (a := .bool a) (b := .bool b) (by simp) (by simp), Result.andThen_ok]
   rw [z1mk, Sem.run_bind, z1eu (z17s 9999 a b ht)]; rfl, z4f rfl⟩
theorem q_not {P : Program} {o : Oper} {σ : AS} {t : TypeId} {x : Operand} {a : Bool} (ho : o.op = .unOp .not t x)
   (hx : σ.eval x = .val (.bool a)) : QStep P o σ (.val (.bool (!a))) :=
 q_run fun w c act hr => ⟨_, by
   have e1 := z0r hr.2 hx
   simp [execOp, ho, e1, Op.unary], z4f rfl⟩
theorem q_neg {P : Program} {o : Oper} {σ : AS} {t : TypeId} {x : Operand} {k : IntKind} {a : Int} (ho : o.op = .unOp .neg t x)
   (hx : σ.eval x = .val (.int k a)) : QStep P o σ (.val (.int k (k.wrap (0 - a)))) :=
 q_run fun w c act hr => ⟨_, by
   have e1 := z0r hr.2 hx
   simp [execOp, ho, e1, Op.unary, Op.intArith], z4f rfl⟩
theorem z1sr {P : Program} {o : Oper} {σ : AS} {s t : TypeId} {x : Operand} {k k' : IntKind} {a : Int} {d : TypeDesc} (ho : o.op = .convert s t x)
   (hs : P.underlying s = some d) (ht : P.underlying t = some (.int k')) (hx : σ.eval x = .val (.int k a)) : QStep P o σ (.val (.int k' (k'.wrap a))) :=
 q_run fun w c act hr => ⟨_, by
   have e1 := z0r hr.2 hx
   simp only [execOp, ho, e1, convert, Sem.run_bind, run_underlying hs, run_underlying ht, Result.andThen_ok]
   cases d <;> simp [Conv.intToInt], z4f rfl⟩
theorem z1ma {P : Program} {o : Oper} {σ : AS} {s t : TypeId} {x : Operand} {a : ByteArray} (ho : o.op = .convert s t x)
   (hs : P.underlying s = some .string) (ht : P.underlying t = some .string) (hx : σ.eval x = .val (.string a)) : QStep P o σ (.val (.string a)) :=
 q_run fun w c act hr => ⟨_, by
   have e1 := z0r hr.2 hx
   simp only [execOp, ho, e1, convert, Sem.run_bind, run_underlying hs, run_underlying ht, Result.andThen_ok]
   simp, z4f rfl⟩
def tyAgg (P : Program) (t : TypeId) : Option Bool :=
 match P.underlying t with
 | some (.struct _) | some (.array _ _) => some true
 | some _ => some false
 | none => none
def tySz (P : Program) (t : TypeId) : Option Nat := (P.info? t).map (·.size)
theorem zp8 {P : Program} {w : World} {t : TypeId} {b : Bool} (h : tyAgg P t = some b) : (isAgg t).run P w = .ok b w := by
 unfold tyAgg at h
 unfold isAgg
 cases hd : P.underlying t with
 | none => rw [hd] at h; cases h
 | some d =>
   rw [hd] at h
   simp only [Sem.run_bind, run_underlying hd, Result.andThen_ok]
   cases d <;> simp at h <;> subst h <;> rfl
theorem run_sizeOf {P : Program} {w : World} {t : TypeId} {n : Nat} (h : tySz P t = some n) : (sizeOf t).run P w = .ok n w := by
 unfold tySz at h
 unfold sizeOf typeInfo
 cases hi : P.info? t with
 | none => rw [hi] at h; cases h
 | some i => rw [hi] at h; simp at h; subst h; simp [hi]
theorem z1cv {P : Program} {w : World} {c : Cx} {a : Addr} (cs : List PV) (h : VRs w c cs (fun i => w.cell? (a.add i))) :
   ∃ vs : Array Value, (loadCells a cs.length).run P w = .ok vs w ∧ vs.size = cs.length ∧ VRs w c cs (fun i => vs[i]?) := by
 have hsome : ∀ i, i < cs.length → ∃ v, w.cell? (a.add i) = some v := fun i hi => by
   obtain ⟨v, h1, _⟩ := z0s h (List.getElem?_eq_getElem hi)
   exact ⟨v, h1⟩
 refine ⟨((List.range cs.length).map (fun i => (w.cell? (a.add i)).getD undef)).toArray, run_loadCells w a cs.length _ (fun i hi => ?_), by simp, z2d fun i p hp => ?_⟩
 · obtain ⟨v, h1⟩ := hsome i hi; simp [h1]
 · have hi := (List.getElem?_eq_some_iff.1 hp).1
   obtain ⟨v, h1, h2⟩ := z0s h hp
   exact ⟨v, by simp [hi, h1], h2⟩
def Loads (P : Program) (H : List AObj) (t : TypeId) (p q : PV) : Prop :=
 ∀ w c ts v, Good w c H ts → VR w c p v → ∃ a u, v = .pointer (some a) ∧ (loadVar t a).run P w = .ok u w ∧ VR w c q u
theorem z1mt {P : Program} {H : List AObj} {t : TypeId} {b off n : Nat} {cs qs : List PV} {e : TypeId} (ha : tyAgg P t = some true) (hn : tySz P t = some n)
   (hb : H[b]? = some (.row cs e)) (hq : (cs.drop off).take n = qs) (hlen : qs.length = n) : Loads P H t (.ptr b off) (.agg qs) := by
 intro w c ts v g hv
 simp only [VR] at hv
 obtain ⟨k, hk, rfl⟩ := hv
 obtain ⟨vs, fr, h2, hf, h3, hl, h4⟩ := (g.obj b _ hb).row hk
 have hcells : VRs w c qs (fun i => w.cell? (Addr.add ⟨k, off, none⟩ i)) := z2d fun i p hp => by
   rw [z7d, zhf h2]
   rw [← hq] at hp
   have : cs[off + i]? = some p := by
     rw [List.getElem?_take] at hp
     split at hp
     · rw [List.getElem?_drop] at hp; exact hp
     · cases hp
   exact z0s h4 this
 obtain ⟨us, hrun, hs, hr⟩ := z1cv (P := P) qs hcells
 refine ⟨_, .agg us, rfl, ?_, ?_⟩
 · unfold loadVar
   simp only [Sem.run_bind, zp8 ha, Result.andThen_ok, if_true, run_sizeOf hn]
   rw [← hlen, hrun]; rfl
 · simp only [VR]; exact ⟨us, rfl, hs, fun q hq' => hl q (List.mem_of_mem_drop (List.mem_of_mem_take (hq ▸ hq'))), hr⟩
theorem z1ky {P : Program} {H : List AObj} {t : TypeId} {b off : Nat} {cs : List PV} {q : PV} {e : TypeId} (ha : tyAgg P t = some false)
   (hb : H[b]? = some (.row cs e)) (hq : cs[off]? = some q) : Loads P H t (.ptr b off) q := by
 intro w c ts v g hv
 simp only [VR] at hv
 obtain ⟨k, hk, rfl⟩ := hv
 obtain ⟨vs, fr, h2, hf, h3, hl, h4⟩ := (g.obj b _ hb).row hk
 obtain ⟨u, hu, hr⟩ := z0s h4 hq
 refine ⟨_, u, rfl, ?_, hr⟩
 unfold loadVar
 simp only [Sem.run_bind, zp8 ha, Result.andThen_ok, Bool.false_eq_true, if_false, run_load, zhf h2, hu]
theorem zwy {w : World} {c : Cx} {a : Addr} {cs : List PV} (hf : Foot w c a cs.length) (h : VRs w c cs (fun i => w.cell? ⟨a.block, a.off + i, none⟩)) :
   VRs w c cs (fun i => w.cell? (a.add i)) := by
 refine z2d fun i p hp => ?_
 obtain ⟨v, h1, h2⟩ := z0s h hp
 have hi := (List.getElem?_eq_some_iff.1 hp).1
 rcases hf with hf | ⟨hs, _⟩
 · omega
 · have : a.add i = ⟨a.block, a.off + i, none⟩ := by
     cases a with
     | mk b o s => simp only at hs; subst hs; exact z7d b o i
   rw [this]; exact ⟨v, h1, h2⟩
theorem z1ps {P : Program} {H : List AObj} {t : TypeId} {n : Nat} {cs qs : List PV} (ha : tyAgg P t = some true) (hn : tySz P t = some n)
   (hq : cs.take n = qs) (hlen : qs.length = n) : Loads P H t (.fz cs) (.agg qs) := by
 intro w c ts v g hv
 simp only [VR] at hv
 obtain ⟨a, rfl, hf, hl, hc⟩ := hv
 have hcells : VRs w c qs (fun i => w.cell? (a.add i)) := z2d fun i p hp => by
   have hc' := zwy hf hc
   rw [← hq, List.getElem?_take] at hp
   split at hp
   · exact z0s hc' hp
   · cases hp
 obtain ⟨us, hrun, hs, hr⟩ := z1cv (P := P) qs hcells
 refine ⟨_, .agg us, rfl, ?_, ?_⟩
 · unfold loadVar
   simp only [Sem.run_bind, zp8 ha, Result.andThen_ok, if_true, run_sizeOf hn]
   rw [← hlen, hrun]; rfl
 · simp only [VR]; exact ⟨us, rfl, hs, fun q hq' => hl q (List.mem_of_mem_take (hq ▸ hq')), hr⟩
theorem z1ic {P : Program} {H : List AObj} {t : TypeId} {cs : List PV} {q : PV} (ha : tyAgg P t = some false)
   (hq : cs[0]? = some q) : Loads P H t (.fz cs) q := by
 intro w c ts v g hv
 simp only [VR] at hv
 obtain ⟨a, rfl, hf, hl, hc⟩ := hv
 obtain ⟨u, hu, hr⟩ := z0s (zwy hf hc) hq
 refine ⟨_, u, rfl, ?_, hr⟩
 have hu' : w.cell? a = some u := hu
 unfold loadVar
 simp only [Sem.run_bind, zp8 ha, Result.andThen_ok, Bool.false_eq_true, if_false, run_load, hu']
theorem z1sj {P : Program} {o : Oper} {σ : AS} {t : TypeId} {x : Operand} {p q : PV} (ho : o.op = .load t x) (hx : σ.eval x = p) (h : Loads P σ.H t p q) : QStep P o σ q :=
 q_run fun w c act hr => by
   obtain ⟨a, u, h1, h2, h3⟩ := h w c _ _ hr.1 (hx ▸ hr.2.eval x)
   exact ⟨u, by simp [execOp, ho, Instr.loadAt, h1, Instr.sureAddr, h2], h3⟩
theorem z1dx {P : Program} {w : World} {a : Addr} {f : Field} {n : Nat} (h : tySz P f.type = some n) (hn : n ≠ 0) :
   (fieldPlace a f).run P w = .ok (a.add f.offset) w := by
 unfold fieldPlace
 simp only [Sem.run_bind, run_sizeOf h, Result.andThen_ok, if_neg hn]
 rfl
def z16p (P : Program) (t : TypeId) (i : Nat) : Option Nat :=
 match P.underlying t with
 | some (.struct fs) => match fs[i]? with
   | some f => match tySz P f.type with
     | some (_ + 1) => some f.offset
     | _ => none
   | none => none
 | _ => none
theorem z1aa {P : Program} {w : World} {t : TypeId} {i off : Nat} {a : Addr} (h : z16p P t i = some off) :
   (Instr.fieldAt t (.pointer (some a)) i).run P w = .ok (.pointer (some (a.add off))) w := by
 unfold z16p at h
 split at h
 · rename_i fs hu
   split at h
   · rename_i f hf
     split at h
     · rename_i n hs
       cases h
       simp only [Instr.fieldAt, Sem.run_bind, run_underlying hu, Result.andThen_ok, hf, Instr.sureAddr, Sem.run_pure, z1dx hs (Nat.succ_ne_zero n)]
     · cases h
   · cases h
 · cases h
theorem z1rk {P : Program} {o : Oper} {σ : AS} {t : TypeId} {x : Operand} {i b off fo : Nat} (ho : o.op = .fieldAddr t x i) (hf : z16p P t i = some fo)
   (hx : σ.eval x = .ptr b off) : QStep P o σ (.ptr b (off + fo)) :=
 q_run fun w c act hr => by
   have hv := hr.2.eval x
   rw [hx] at hv
   simp only [VR] at hv
   obtain ⟨k, hk, e⟩ := hv
   refine ⟨.pointer (some ⟨k, off + fo, none⟩), ?_, ?_⟩
   · simp only [execOp, ho, e, Sem.run_bind, z1aa hf, Result.andThen_ok, z7d]; rfl
   · simp only [VR]; exact ⟨k, hk, rfl⟩
theorem z14t {w : World} {c : Cx} {cs : List PV} {f : Nat → Option Value} (h : VRs w c cs f) (n : Nat) : VRs w c (cs.take n) f :=
 z2d fun i p hp => by
   rw [List.getElem?_take] at hp
   split at hp
   · exact z0s h hp
   · cases hp
theorem Foot.le {w : World} {c : Cx} {a : Addr} {n m : Nat} {H : List AObj} {ts : List Bool} (g : Good w c H ts) (h : Foot w c a n)
   (d : Nat) (hd : d + m ≤ n) : Foot w c (a.add d) m := by
 rcases h with h | ⟨hs, hb, hm, ht, ho⟩
 · exact .inl (by omega)
 · have e : a.add d = ⟨a.block, a.off + d, none⟩ := by
     cases a with
     | mk b o s => simp only at hs; subst hs; exact z7d b o d
   rw [e]
   exact .inr ⟨rfl, hb, hm, fun i k h => by have := ht i k h; show a.off + d + m ≤ k; omega, g.okm _ _ _ ho (by show a.off + d + m ≤ a.off + n; omega)⟩
end Go.Ab