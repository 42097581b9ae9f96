/- An abstract calculus over the model's weakest preconditions, part 1: abstract values, how they stand to values in a world, and that they stay so while the world only grows. -/
import Derived.Orders
import Derived.Laws.Sem
import Derived.Laws.Cells
namespace Go.Ab

/-- What is known of the places behind a slice's end: nothing; that there are none; that they are free, and whose token they bear. -/
inductive Tail where
  | no
  | full
  | tok (i sz : Nat)

inductive PV where
  | val (v : Value)
  | ptr (b off : Nat)
  | fz (cs : List PV)
  | sl (b off len cap : Nat)
  | tr (len : Nat) (cs : List PV) (t : Tail)
  | fn (f : FuncId) (caps : List PV)
  | agg (cs : List PV)
  | tup (vs : List PV)
  | ifc (t : TypeId) (v : PV)
  | dead

/-- The abstract heap's objects. -/
inductive AObj where
  | row (cs : List PV) (e : TypeId)
  | raw (o : Obj)
  | gone

structure Cx where
  m : List (Option Nat)
  T : List (Option (Nat × Nat))
  /-- what may be looked upon as frozen: a block, up to a place -/
  ok : Nat → Nat → Prop

def plain : Value → Bool
  | .bool _ | .int _ _ | .float _ _ | .string _ | .pointer none | .nilFunc | .nilIface | .map none => true
  | _ => false

/-- None of the cells of a block of that many is frozen. -/
def nofz (fr : Nat × Nat) (n : Nat) : Prop := ∀ i, i < n → ¬(fr.1 ≤ i ∧ i < fr.2)

theorem nofz_zero (n : Nat) : nofz (0, 0) n := fun _ _ h => by simp at h

def Foot (w : World) (c : Cx) (a : Addr) (n : Nat) : Prop :=
  n = 0 ∨ (a.spot = none ∧ a.block < w.heap.size ∧ some a.block ∉ c.m ∧ (∀ i k : Nat, c.T[i]? = some (some (a.block, k)) → a.off + n ≤ k) ∧ c.ok a.block (a.off + n))

def TailOK (w : World) (c : Cx) (a : Addr) (len cap n : Nat) : Tail → Prop
  | .no => True
  | .full => cap = len
  | .tok i sz => i < c.T.length ∧ ∀ β k : Nat, c.T[i]? = some (some (β, k)) →
      a = ⟨β, k - n, none⟩ ∧ n ≤ k ∧ n = len * sz ∧ ∃ vs e fr, w.heap[β]? = some (.cells vs e fr) ∧ a.off + cap * sz ≤ vs.size

def Tail.isTok : Tail → Bool
  | .tok _ _ => true
  | _ => false

/-- What fills one cell. -/
def leaf : PV → Bool
  | .agg _ | .tup _ | .dead => false
  | _ => true

def Leafs (cs : List PV) : Prop := ∀ p, p ∈ cs → leaf p = true

mutual
def VR (w : World) (c : Cx) : PV → Value → Prop
  | .val v, u => u = v ∧ plain v = true
  | .ptr b off, u => ∃ k, c.m[b]? = some (some k) ∧ u = .pointer (some ⟨k, off, none⟩)
  | .fz cs, u => ∃ a : Addr, u = .pointer (some a) ∧ Foot w c a cs.length ∧ Leafs cs ∧ VRs w c cs (fun i => w.cell? ⟨a.block, a.off + i, none⟩)
  | .sl b off len cap, u => ∃ k, c.m[b]? = some (some k) ∧ u = .slice (some ⟨k, off, none⟩) len cap
  | .tr len cs t, u => (u = .slice none 0 0 ∧ len = 0 ∧ cs = [] ∧ t.isTok = false) ∨
      ∃ (a : Addr) (cap : Nat), u = .slice (some a) len cap ∧ len ≤ cap ∧ Foot w c a cs.length ∧ TailOK w c a len cap cs.length t ∧ Leafs cs ∧
        VRs w c cs (fun i => w.cell? ⟨a.block, a.off + i, none⟩)
  | .fn f caps, u => ∃ cv : Array Value, u = .func (.func f) #[] cv ∧ cv.size = caps.length ∧ VRs w c caps (fun i => cv[i]?)
  | .agg cs, u => ∃ cv : Array Value, u = .agg cv ∧ cv.size = cs.length ∧ Leafs cs ∧ VRs w c cs (fun i => cv[i]?)
  | .tup cs, u => ∃ cv : Array Value, u = .tuple cv ∧ cv.size = cs.length ∧ VRs w c cs (fun i => cv[i]?)
  | .ifc t p, u => ∃ v, u = .iface t v ∧ VR w c p v
  | .dead, _ => True
def VRs (w : World) (c : Cx) : List PV → (Nat → Option Value) → Prop
  | [], _ => True
  | p :: ps, f => (∃ v, f 0 = some v ∧ VR w c p v) ∧ VRs w c ps (fun i => f (i + 1))
end

/-- What was there stays: the blocks that aren't the abstract heap's own (nor a token's tail) hold what they held. -/
structure Ext (w : World) (c : Cx) (w' : World) (c' : Cx) : Prop where
  os : w'.os = w.os
  tape : w'.tape = w.tape
  output : w'.output = w.output
  size : w.heap.size ≤ w'.heap.size
  ids : ∀ b k : Nat, c.m[b]? = some (some k) → c'.m[b]? = some (some k)
  new : ∀ k : Nat, some k ∈ c'.m → some k ∈ c.m ∨ w.heap.size ≤ k
  blocks : ∀ k : Nat, k < w.heap.size → some k ∉ c.m → (∀ i j : Nat, c.T[i]? ≠ some (some (k, j))) → w'.heap[k]? = w.heap[k]?
  cells : ∀ k : Nat, k < w.heap.size → some k ∉ c.m → ∀ off v, (∀ i j : Nat, c.T[i]? = some (some (k, j)) → off < j) →
    w.cell? ⟨k, off, none⟩ = some v → w'.cell? ⟨k, off, none⟩ = some v
  toks : ∀ i k j : Nat, c'.T[i]? = some (some (k, j)) → w.heap.size ≤ k ∨ ∃ i' j' : Nat, c.T[i']? = some (some (k, j')) ∧ j' ≤ j
  stay : ∀ i k j : Nat, i < c.T.length → c'.T[i]? = some (some (k, j)) → c.T[i]? = some (some (k, j)) ∧ w'.heap[k]? = w.heap[k]?
  tlen : c.T.length ≤ c'.T.length
  ok : c'.ok = c.ok

theorem Ext.refl (w : World) (c : Cx) : Ext w c w c where
  os := rfl
  tape := rfl
  output := rfl
  size := Nat.le_refl _
  ids := fun _ _ h => h
  new := fun _ h => .inl h
  blocks := fun _ _ _ _ => rfl
  cells := fun _ _ _ _ _ _ h => h
  toks := fun i _ j h => .inr ⟨i, j, h, Nat.le_refl _⟩
  stay := fun _ _ _ _ h => ⟨h, rfl⟩
  tlen := Nat.le_refl _
  ok := rfl

theorem Ext.trans {w w1 w2 : World} {c c1 c2 : Cx} (h : Ext w c w1 c1) (g : Ext w1 c1 w2 c2) : Ext w c w2 c2 where
  os := g.os.trans h.os
  tape := g.tape.trans h.tape
  output := g.output.trans h.output
  size := Nat.le_trans h.size g.size
  ids := fun b _ x => g.ids b _ (h.ids b _ x)
  new := fun _ x => (g.new _ x).elim (fun y => h.new _ y) (fun y => .inr (Nat.le_trans h.size y))
  blocks := fun k hk hm ht => by
    have hm1 : some k ∉ c1.m := fun x => (h.new k x).elim hm (fun y => absurd hk (Nat.not_lt.2 y))
    rw [g.blocks k (Nat.lt_of_lt_of_le hk h.size) hm1 ?_, h.blocks k hk hm ht]
    intro i j e
    rcases h.toks i k j e with y | ⟨i', j', e', _⟩
    · exact absurd hk (Nat.not_lt.2 y)
    · exact ht _ _ e'
  cells := fun k hk hm off v ht hv => by
    have hm1 : some k ∉ c1.m := fun x => (h.new k x).elim hm (fun y => absurd hk (Nat.not_lt.2 y))
    refine g.cells k (Nat.lt_of_lt_of_le hk h.size) hm1 off v ?_ (h.cells k hk hm off v ht hv)
    intro i j e
    rcases h.toks i k j e with y | ⟨i', j', e', le⟩
    · exact absurd hk (Nat.not_lt.2 y)
    · exact Nat.lt_of_lt_of_le (ht _ _ e') le
  toks := fun i k j e => by
    rcases g.toks i k j e with y | ⟨i', j', e', le⟩
    · exact .inl (Nat.le_trans h.size y)
    · rcases h.toks i' k j' e' with y | ⟨i2, j2, e2, le2⟩
      · exact .inl y
      · exact .inr ⟨i2, j2, e2, Nat.le_trans le2 le⟩
  stay := fun i k j hi e => by
    obtain ⟨e1, h1⟩ := g.stay i k j (Nat.lt_of_lt_of_le hi h.tlen) e
    obtain ⟨e2, h2⟩ := h.stay i k j hi e1
    exact ⟨e2, h1.trans h2⟩
  tlen := Nat.le_trans h.tlen g.tlen
  ok := g.ok.trans h.ok

theorem Foot.ext {w w' : World} {c c' : Cx} (x : Ext w c w' c') {a : Addr} {n : Nat} (h : Foot w c a n) : Foot w' c' a n := by
  rcases h with h | ⟨hs, hb, hm, ht, ho⟩
  · exact .inl h
  · refine .inr ⟨hs, Nat.lt_of_lt_of_le hb x.size, fun y => (x.new _ y).elim hm (fun z => absurd hb (Nat.not_lt.2 z)), fun i k e => ?_, by rw [x.ok]; exact ho⟩
    rcases x.toks i _ k e with y | ⟨i', j', e', le⟩
    · exact absurd hb (Nat.not_lt.2 y)
    · exact Nat.le_trans (ht _ _ e') le

theorem TailOK.ext {w w' : World} {c c' : Cx} (x : Ext w c w' c') {a : Addr} {len cap n : Nat} {t : Tail} (h : TailOK w c a len cap n t) : TailOK w' c' a len cap n t := by
  cases t with
  | no => exact trivial
  | full => exact h
  | tok i sz =>
    obtain ⟨hi, h⟩ := h
    refine ⟨Nat.lt_of_lt_of_le hi x.tlen, fun β k e => ?_⟩
    obtain ⟨e0, hh⟩ := x.stay i β k hi e
    obtain ⟨h1, h2, h3, vs, el, fr, h4, h5⟩ := h β k e0
    exact ⟨h1, h2, h3, vs, el, fr, hh.trans h4, h5⟩

mutual
theorem VR.ext {w w' : World} {c c' : Cx} (x : Ext w c w' c') : ∀ (p : PV) {v : Value}, VR w c p v → VR w' c' p v
  | .val _, _, h => by simp only [VR] at h ⊢; exact h
  | .ptr b off, _, h => by
    simp only [VR] at h ⊢
    obtain ⟨k, h1, h2⟩ := h
    exact ⟨k, x.ids _ _ h1, h2⟩
  | .fz cs, _, h => by
    simp only [VR] at h ⊢
    obtain ⟨a, h1, h2, hl, h3⟩ := h
    refine ⟨a, h1, h2.ext x, hl, VRs.ext x cs ?_ h3⟩
    intro i hi v hv
    rcases h2 with h2 | ⟨hs, hb, hm, ht, _⟩
    · omega
    · exact x.cells _ hb hm _ v (fun j k e => by have := ht j k e; omega) hv
  | .sl b off len cap, _, h => by
    simp only [VR] at h ⊢
    obtain ⟨k, h1, h2⟩ := h
    exact ⟨k, x.ids _ _ h1, h2⟩
  | .tr len cs t, _, h => by
    simp only [VR] at h ⊢
    rcases h with h | ⟨a, cap, h1, hc, h2, h4, hl, h3⟩
    · exact .inl h
    · refine .inr ⟨a, cap, h1, hc, h2.ext x, h4.ext x, hl, VRs.ext x cs ?_ h3⟩
      intro i hi v hv
      rcases h2 with h2 | ⟨hs, hb, hm, ht, _⟩
      · omega
      · exact x.cells _ hb hm _ v (fun j k e => by have := ht j k e; omega) hv
  | .fn f caps, _, h => by
    simp only [VR] at h ⊢
    obtain ⟨cv, h1, h2, h3⟩ := h
    exact ⟨cv, h1, h2, VRs.ext x caps (fun _ _ _ e => e) h3⟩
  | .agg cs, _, h => by
    simp only [VR] at h ⊢
    obtain ⟨cv, h1, h2, hl, h3⟩ := h
    exact ⟨cv, h1, h2, hl, VRs.ext x cs (fun _ _ _ e => e) h3⟩
  | .tup cs, _, h => by
    simp only [VR] at h ⊢
    obtain ⟨cv, h1, h2, h3⟩ := h
    exact ⟨cv, h1, h2, VRs.ext x cs (fun _ _ _ e => e) h3⟩
  | .ifc t p, _, h => by
    simp only [VR] at h ⊢
    obtain ⟨v, h1, h2⟩ := h
    exact ⟨v, h1, VR.ext x p h2⟩
  | .dead, _, _ => by simp only [VR]
theorem VRs.ext {w w' : World} {c c' : Cx} (x : Ext w c w' c') : ∀ (ps : List PV) {f g : Nat → Option Value},
    (∀ i, i < ps.length → ∀ v, f i = some v → g i = some v) → VRs w c ps f → VRs w' c' ps g
  | [], _, _, _, _ => by simp only [VRs]
  | p :: ps, f, g, hfg, h => by
    simp only [VRs] at h ⊢
    obtain ⟨⟨v, h1, h2⟩, h3⟩ := h
    exact ⟨⟨v, hfg 0 (by simp) v h1, VR.ext x p h2⟩, VRs.ext x ps (fun i hi u hu => hfg (i + 1) (by simp; omega) u hu) h3⟩
end

end Go.Ab
